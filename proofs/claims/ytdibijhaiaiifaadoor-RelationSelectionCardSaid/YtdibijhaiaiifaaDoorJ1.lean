/- Parts Pop, Math, Words, Mem, Wa, Wb, Wc, Wd, We, Wf, Wg, Wh, Rel: words, walks and laws that the claims of this seat share. -/
import Derived.Lib.TrailingZeros
import Derived.Test.YtdibijhaiaiifaaDoorProg
import Derived.WalkKit
import Derived.WalkSpells
import Derived.WalkLawsBesides
import Derived.Lib.Hide
import Derived.Laws.Bits64b
import Derived.Laws.BitsAllLaws
import Derived.Deep.QuietTactic
import Derived.BigQuiet
import Derived.RangeFuncNested
import Derived.RangeFuncBound
import Derived.RangeFuncCalls
import Derived.RangeFuncLeaves
import Derived.RangeFuncBox
import Derived.Shelf.Abstract
import Derived.Shelf.RegionOpen
import Derived.OwnWalkIn
import Derived.TacticsInMore
import Derived.LoopNIn
import Derived.LoopIn
import Derived.Maps.AppendAt
/- The number of set bits of a 64-bit word: the plain arithmetic behind the bit count of Go's library, no program in sight. -/
namespace Go.Proofs.YtdibijhaiaiifaaDoor
/-- How many of the first n bits of x are set. -/
def cntBits (n x : Nat) : Nat := (List.range n).countP fun k => x.testBit k
def rep (b : Nat) : Nat → Nat
  | 0 => 0
  | n + 1 => b + 256 * rep b n
theorem and256 (a b : Nat) : a &&& b = (a % 256 &&& b % 256) + 256 * (a / 256 &&& b / 256) := by
  have h1 : (a &&& b) % 2 ^ 8 = (a % 2 ^ 8) &&& (b % 2 ^ 8) := Nat.and_mod_two_pow
  have h2 : (a &&& b) / 2 ^ 8 = (a / 2 ^ 8) &&& (b / 2 ^ 8) := Nat.and_div_two_pow
  simp only [show (2 : Nat) ^ 8 = 256 from rfl] at h1 h2
  omega
theorem rep_mod (b n : Nat) (h : b < 256) : rep b (n + 1) % 256 = b := by simp only [rep]; omega
theorem rep_div (b n : Nat) (h : b < 256) : rep b (n + 1) / 256 = rep b n := by simp only [rep]; omega
def g1 (b : Nat) : Nat := (b / 2 &&& 85) + (b &&& 85)
def g2 (b : Nat) : Nat := (b / 4 &&& 51) + (b &&& 51)
def g3 (b : Nat) : Nat := (b / 16 + b) &&& 15
def s1 (n x : Nat) : Nat := (x / 2 &&& rep 85 n) + (x &&& rep 85 n)
def s2 (n x : Nat) : Nat := (x / 4 &&& rep 51 n) + (x &&& rep 51 n)
def s3 (n x : Nat) : Nat := (x / 16 + x) &&& rep 15 n
theorem f1 : ∀ b, b < 256 → ∀ c, c < 2 → (b / 2 + 128 * c) &&& 85 = b / 2 &&& 85 := by decide +kernel
theorem f2 : ∀ b, b < 256 → ∀ c, c < 4 → (b / 4 + 64 * c) &&& 51 = b / 4 &&& 51 := by decide +kernel
theorem f3 : ∀ b, b < 256 → (b % 16 ≤ 4 ∧ b / 16 ≤ 4) → ∀ c, c < 5 → (b / 16 + 16 * c + b) &&& 15 = (b / 16 + b) &&& 15 := by decide +kernel
theorem g1_lt : ∀ b, b < 256 → g1 b < 256 := by decide +kernel
theorem g2_lt : ∀ b, b < 256 → g2 (g1 b) < 256 ∧ g2 (g1 b) % 16 ≤ 4 ∧ g2 (g1 b) / 16 ≤ 4 := by decide +kernel
theorem g3_pop : ∀ b, b < 256 → g3 (g2 (g1 b)) = cntBits 8 b := by decide +kernel
theorem cnt8_le : ∀ b, b < 256 → cntBits 8 b ≤ 8 := by decide +kernel
theorem s1_succ (n x : Nat) : s1 (n + 1) x = g1 (x % 256) + 256 * s1 n (x / 256) := by
  unfold s1 g1
  rw [and256 (x / 2), and256 x, rep_mod _ _ (by omega), rep_div _ _ (by omega)]
  have e1 : x / 2 % 256 = x % 256 / 2 + 128 * (x / 256 % 2) := by omega
  have e2 : x / 2 / 256 = x / 256 / 2 := by omega
  rw [e1, e2, f1 _ (by omega) _ (by omega)]
  omega
theorem s2_succ (n x : Nat) : s2 (n + 1) x = g2 (x % 256) + 256 * s2 n (x / 256) := by
  unfold s2 g2
  rw [and256 (x / 4), and256 x, rep_mod _ _ (by omega), rep_div _ _ (by omega)]
  have e1 : x / 4 % 256 = x % 256 / 4 + 64 * (x / 256 % 4) := by omega
  have e2 : x / 4 / 256 = x / 256 / 4 := by omega
  rw [e1, e2, f2 _ (by omega) _ (by omega)]
  omega
theorem s3_succ (n x : Nat) (h1 : x % 16 ≤ 4) (h2 : x % 256 / 16 ≤ 4) (h3 : x / 256 % 16 ≤ 4) : s3 (n + 1) x = g3 (x % 256) + 256 * s3 n (x / 256) := by
  unfold s3 g3
  rw [and256 (x / 16 + x), rep_mod _ _ (by omega), rep_div _ _ (by omega)]
  have e1 : (x / 16 + x) % 256 = x % 256 / 16 + 16 * (x / 256 % 16) + x % 256 := by omega
  have e2 : (x / 16 + x) / 256 = x / 256 / 16 + x / 256 := by omega
  rw [e1, e2, f3 _ (by omega) ⟨by omega, by omega⟩ _ (by omega)]
theorem s12_low (n x : Nat) : s2 n (s1 n x) % 16 ≤ 4 := by
  cases n with
  | zero => simp [s2, s1, rep]
  | succ n =>
    rw [s1_succ, s2_succ]
    have a := g1_lt (x % 256) (by omega)
    have b := g2_lt (x % 256) (by omega)
    have e : (g1 (x % 256) + 256 * s1 n (x / 256)) % 256 = g1 (x % 256) := by omega
    rw [e]; omega
theorem s123_succ (n x : Nat) : s3 (n + 1) (s2 (n + 1) (s1 (n + 1) x)) = cntBits 8 (x % 256) + 256 * s3 n (s2 n (s1 n (x / 256))) := by
  have a := g1_lt (x % 256) (by omega)
  have b := g2_lt (x % 256) (by omega)
  have e1 : s2 (n + 1) (s1 (n + 1) x) = g2 (g1 (x % 256)) + 256 * s2 n (s1 n (x / 256)) := by
    rw [s1_succ, s2_succ]
    have e : (g1 (x % 256) + 256 * s1 n (x / 256)) % 256 = g1 (x % 256) := by omega
    have e' : (g1 (x % 256) + 256 * s1 n (x / 256)) / 256 = s1 n (x / 256) := by omega
    rw [e, e']
  have l := s12_low n (x / 256)
  have m : s2 (n + 1) (s1 (n + 1) x) % 256 = g2 (g1 (x % 256)) := by omega
  have d : s2 (n + 1) (s1 (n + 1) x) / 256 = s2 n (s1 n (x / 256)) := by omega
  rw [s3_succ n _ (by omega) (by omega) (by omega), m, d, g3_pop _ (by omega)]
theorem cnt_succ (n x : Nat) : cntBits (8 + n) x = cntBits 8 (x % 256) + cntBits n (x / 256) := by
  unfold cntBits
  rw [List.range_add, List.countP_append, List.countP_map]
  congr 1
  · refine List.countP_congr fun k hk => ?_
    have hk : k < 8 := by simpa using hk
    have : (x % 2 ^ 8).testBit k = (decide (k < 8) && x.testBit k) := Nat.testBit_mod_two_pow ..
    simp only [show (2 : Nat) ^ 8 = 256 from rfl] at this
    rw [this]; simp [hk]
  · refine List.countP_congr fun k _ => ?_
    have : (x / 2 ^ 8).testBit k = x.testBit (8 + k) := by rw [Nat.testBit_div_two_pow, Nat.add_comm]
    simp only [show (2 : Nat) ^ 8 = 256 from rfl] at this
    simp only [Function.comp, this]
theorem cnt0 (x : Nat) : cntBits 0 x = 0 := rfl
/-- The library's count, as its text computes it. -/
def fold64 (y : Nat) : Nat :=
  let y := (y + y / 256) % 18446744073709551616
  let y := (y + y / 65536) % 18446744073709551616
  let y := (y + y / 4294967296) % 18446744073709551616
  y % 128
def onesOf (x : Nat) : Nat := fold64 (s3 8 (s2 8 (s1 8 x)))
set_option maxRecDepth 10000 in
theorem bytes8 (x : Nat) : ∃ p0 p1 p2 p3 p4 p5 p6 p7 : Nat, p0 ≤ 8 ∧ p1 ≤ 8 ∧ p2 ≤ 8 ∧ p3 ≤ 8 ∧ p4 ≤ 8 ∧ p5 ≤ 8 ∧ p6 ≤ 8 ∧ p7 ≤ 8 ∧
    s3 8 (s2 8 (s1 8 x)) = p0 + 256 * (p1 + 256 * (p2 + 256 * (p3 + 256 * (p4 + 256 * (p5 + 256 * (p6 + 256 * p7)))))) ∧
    cntBits 64 x = p0 + (p1 + (p2 + (p3 + (p4 + (p5 + (p6 + p7)))))) := by
  have z : ∀ y, s3 0 (s2 0 (s1 0 y)) = 0 := fun y => by simp [s3, rep]
  refine ⟨_, _, _, _, _, _, _, _, cnt8_le (x % 256) (by omega), cnt8_le (x / 256 % 256) (by omega), cnt8_le (x / 256 / 256 % 256) (by omega), cnt8_le (x / 256 / 256 / 256 % 256) (by omega),
    cnt8_le (x / 256 / 256 / 256 / 256 % 256) (by omega), cnt8_le (x / 256 / 256 / 256 / 256 / 256 % 256) (by omega), cnt8_le (x / 256 / 256 / 256 / 256 / 256 / 256 % 256) (by omega), cnt8_le (x / 256 / 256 / 256 / 256 / 256 / 256 / 256 % 256) (by omega), ?_, ?_⟩
  · rw [s123_succ, s123_succ, s123_succ, s123_succ, s123_succ, s123_succ, s123_succ, s123_succ, z, Nat.mul_zero, Nat.add_zero]
  · rw [show (64 : Nat) = 8 + 56 from rfl, cnt_succ, show (56 : Nat) = 8 + 48 from rfl, cnt_succ, show (48 : Nat) = 8 + 40 from rfl, cnt_succ, show (40 : Nat) = 8 + 32 from rfl, cnt_succ,
      show (32 : Nat) = 8 + 24 from rfl, cnt_succ, show (24 : Nat) = 8 + 16 from rfl, cnt_succ, show (16 : Nat) = 8 + 8 from rfl, cnt_succ]
    have h8 := cnt_succ 0 (x / 256 / 256 / 256 / 256 / 256 / 256 / 256)
    simp only [cnt0, Nat.add_zero] at h8
    rw [← h8]
theorem div1 (a t : Nat) (h : a < 256) : (a + 256 * t) / 256 = t := by omega
theorem div2 (a b t : Nat) (h : a < 256) (h' : b < 256) : (a + 256 * (b + 256 * t)) / 65536 = t := by omega
theorem div4 (a b c d t : Nat) (h : a < 256) (h' : b < 256) (h2 : c < 256) (h3 : d < 256) : (a + 256 * (b + 256 * (c + 256 * (d + 256 * t)))) / 4294967296 = t := by omega
theorem stp (y q r m : Nat) (hq : y / m = q) (hr : y + q = r) (hb : r < 18446744073709551616) : (y + y / m) % 18446744073709551616 = r := by
  rw [hq, hr, Nat.mod_eq_of_lt hb]
theorem fold_bytes (p0 p1 p2 p3 p4 p5 p6 p7 : Nat) (h0 : p0 ≤ 8) (h1 : p1 ≤ 8) (h2 : p2 ≤ 8) (h3 : p3 ≤ 8) (h4 : p4 ≤ 8) (h5 : p5 ≤ 8) (h6 : p6 ≤ 8) (h7 : p7 ≤ 8) :
    fold64 (p0 + 256 * (p1 + 256 * (p2 + 256 * (p3 + 256 * (p4 + 256 * (p5 + 256 * (p6 + 256 * (p7)))))))) = p0 + (p1 + (p2 + (p3 + (p4 + (p5 + (p6 + p7)))))) := by
  unfold fold64
  dsimp only
  rw [stp (p0 + 256 * (p1 + 256 * (p2 + 256 * (p3 + 256 * (p4 + 256 * (p5 + 256 * (p6 + 256 * (p7)))))))) (p1 + 256 * (p2 + 256 * (p3 + 256 * (p4 + 256 * (p5 + 256 * (p6 + 256 * (p7))))))) ((p0 + p1) + 256 * ((p1 + p2) + 256 * ((p2 + p3) + 256 * ((p3 + p4) + 256 * ((p4 + p5) + 256 * ((p5 + p6) + 256 * ((p6 + p7) + 256 * (p7)))))))) 256 (div1 p0 _ (by omega)) (by omega) (by omega)]
  rw [stp ((p0 + p1) + 256 * ((p1 + p2) + 256 * ((p2 + p3) + 256 * ((p3 + p4) + 256 * ((p4 + p5) + 256 * ((p5 + p6) + 256 * ((p6 + p7) + 256 * (p7)))))))) ((p2 + p3) + 256 * ((p3 + p4) + 256 * ((p4 + p5) + 256 * ((p5 + p6) + 256 * ((p6 + p7) + 256 * (p7)))))) ((p0 + p1 + p2 + p3) + 256 * ((p1 + p2 + p3 + p4) + 256 * ((p2 + p3 + p4 + p5) + 256 * ((p3 + p4 + p5 + p6) + 256 * ((p4 + p5 + p6 + p7) + 256 * ((p5 + p6 + p7) + 256 * ((p6 + p7) + 256 * (p7)))))))) 65536 (div2 (p0 + p1) (p1 + p2) _ (by omega) (by omega)) (by omega) (by omega)]
  rw [stp ((p0 + p1 + p2 + p3) + 256 * ((p1 + p2 + p3 + p4) + 256 * ((p2 + p3 + p4 + p5) + 256 * ((p3 + p4 + p5 + p6) + 256 * ((p4 + p5 + p6 + p7) + 256 * ((p5 + p6 + p7) + 256 * ((p6 + p7) + 256 * (p7)))))))) ((p4 + p5 + p6 + p7) + 256 * ((p5 + p6 + p7) + 256 * ((p6 + p7) + 256 * (p7)))) ((p0 + (p1 + (p2 + (p3 + (p4 + (p5 + (p6 + p7))))))) + 128 * (2 * ((p1 + p2 + p3 + p4 + p5 + p6 + p7) + 256 * ((p2 + p3 + p4 + p5 + p6 + p7) + 256 * ((p3 + p4 + p5 + p6 + p7) + 256 * ((p4 + p5 + p6 + p7) + 256 * ((p5 + p6 + p7) + 256 * ((p6 + p7) + 256 * (p7))))))))) 4294967296 (div4 (p0 + p1 + p2 + p3) (p1 + p2 + p3 + p4) (p2 + p3 + p4 + p5) (p3 + p4 + p5 + p6) _ (by omega) (by omega) (by omega) (by omega)) (by omega) (by omega)]
  rw [Nat.add_mul_mod_self_left, Nat.mod_eq_of_lt (by omega)]
theorem ones_eq (x : Nat) : onesOf x = cntBits 64 x := by
  obtain ⟨p0, p1, p2, p3, p4, p5, p6, p7, h0, h1, h2, h3, h4, h5, h6, h7, e, c⟩ := bytes8 x
  unfold onesOf
  rw [e, c]
  exact fold_bytes _ _ _ _ _ _ _ _ h0 h1 h2 h3 h4 h5 h6 h7
theorem rep85 : rep 85 8 = 6148914691236517205 := rfl
theorem rep51 : rep 51 8 = 3689348814741910323 := rfl
theorem rep15 : rep 15 8 = 1085102592571150095 := rfl
end Go.Proofs.YtdibijhaiaiifaaDoor
/- Sets of moments and their canonical lists of spans: the plain mathematics, no program in sight. -/
namespace Go.Proofs.YtdibijhaiaiifaaDoor
abbrev Sp := Int × Int
def has (l : List Sp) (k : Int) : Bool := l.any fun s => decide (s.1 ≤ k) && decide (k < s.2)
/-- The moments of a list, as a set. -/
def setOf (l : List Sp) (k : Nat) : Bool := has l (k : Int)
/-- The loop that lists the maximal spans: n rounds to go, at moment m, f the beginning of the open span (or less than 0). -/
def runs (S : Nat → Bool) : Nat → Nat → Int → List Sp
  | 0, _, _ => []
  | n + 1, m, f =>
    if (decide (m < 64) && S m) = true then (if f < 0 then runs S n (m + 1) m else runs S n (m + 1) f)
    else (if f < 0 then runs S n (m + 1) f else (f, (m : Int)) :: runs S n (m + 1) (-1))
def canon (S : Nat → Bool) : List Sp := runs S 65 0 (-1)

theorem runs_in_new (S : Nat → Bool) (n m : Nat) (f : Int) (h : m < 64) (hs : S m = true) (hf : f < 0) : runs S (n + 1) m f = runs S n (m + 1) m := by simp [runs, h, hs, hf]
theorem runs_in_on (S : Nat → Bool) (n m : Nat) (f : Int) (h : m < 64) (hs : S m = true) (hf : 0 ≤ f) : runs S (n + 1) m f = runs S n (m + 1) f := by
  simp [runs, h, hs]; intro; omega
theorem runs_out (S : Nat → Bool) (n m : Nat) (f : Int) (hs : (decide (m < 64) && S m) = false) (hf : f < 0) : runs S (n + 1) m f = runs S n (m + 1) f := by
  rw [runs, if_neg (by simp [hs]), if_pos hf]
theorem runs_end (S : Nat → Bool) (n m : Nat) (f : Int) (hs : (decide (m < 64) && S m) = false) (hf : 0 ≤ f) : runs S (n + 1) m f = (f, (m : Int)) :: runs S n (m + 1) (-1) := by
  rw [runs, if_neg (by simp [hs]), if_neg (by omega)]

theorem runs_ext {S T : Nat → Bool} (h : ∀ k, k < 64 → S k = T k) : ∀ n m f, runs S n m f = runs T n m f := by
  intro n
  induction n with
  | zero => intros; rfl
  | succ n ih =>
    intro m f
    have e : (decide (m < 64) && S m) = (decide (m < 64) && T m) := by
      by_cases hm : m < 64 <;> simp [hm]; exact h m hm
    simp only [runs, e, ih]
theorem canon_ext {S T : Nat → Bool} (h : ∀ k, k < 64 → S k = T k) : canon S = canon T := runs_ext h _ _ _

theorem has_cons (s : Sp) (l : List Sp) (k : Int) : has (s :: l) k = ((decide (s.1 ≤ k) && decide (k < s.2)) || has l k) := rfl
theorem has_nil (k : Int) : has [] k = false := rfl
theorem has_append (a b : List Sp) (k : Int) : has (a ++ b) k = (has a k || has b k) := by simp [has, List.any_append]
theorem has_runs (S : Nat → Bool) (k : Int) : ∀ (n m : Nat) (f : Int), n + m = 65 → (n = 0 → f < 0) → f < m →
    has (runs S n m f) k = ((decide (0 ≤ f) && decide (f ≤ k) && decide (k < m)) || (decide ((m : Int) ≤ k) && decide (k < 64) && S k.toNat)) := by
  intro n
  induction n with
  | zero =>
    intro m f hm h0 _
    have := h0 rfl
    have e : m = 65 := by omega
    subst e
    have e1 : decide (0 ≤ f) = false := by simp; omega
    have e2 : (decide (((65 : Nat) : Int) ≤ k) && decide (k < 64)) = false := by simp; omega
    rw [e1, e2]; simp [runs, has_nil]
  | succ n ih =>
    intro m f hm _ hfm
    by_cases hin : m < 64 ∧ S m = true
    · obtain ⟨h64, hs⟩ := hin
      by_cases hf : f < 0
      · rw [runs_in_new S n m f h64 hs hf, ih (m + 1) m (by omega) (by omega) (by omega)]
        by_cases hk : k = m
        · subst hk
          have a : decide ((m : Int) < 64) = true := by simp; omega
          have b : decide ((m : Int) < (m : Int) + 1) = true := by simp; omega
          simp [hs, a, b]
        · have e1 : decide (0 ≤ f) = false := by simp; omega
          rw [e1]
          by_cases hk1 : (m : Int) + 1 ≤ k
          · have a : decide ((m : Int) ≤ k) = true := by simp; omega
            have b : decide (((m + 1 : Nat) : Int) ≤ k) = true := by simp; omega
            have c : decide (k < ((m + 1 : Nat) : Int)) = false := by simp; omega
            rw [a, b, c]; simp
          · have a : decide ((m : Int) ≤ k) = false := by simp; omega
            have b : decide (((m + 1 : Nat) : Int) ≤ k) = false := by simp; omega
            rw [a, b]; simp
      · rw [runs_in_on S n m f h64 hs (by omega), ih (m + 1) f (by omega) (by omega) (by omega)]
        have e1 : decide (0 ≤ f) = true := by simp; omega
        rw [e1]
        by_cases hk : k = m
        · subst hk
          have a : decide ((m : Int) < 64) = true := by simp; omega
          have b : decide ((m : Int) < (m : Int) + 1) = true := by simp; omega
          have c : decide (f ≤ (m : Int)) = true := by simp; omega
          simp [hs, a, b, c]
        · by_cases hk1 : (m : Int) + 1 ≤ k
          · have a : decide ((m : Int) ≤ k) = true := by simp; omega
            have b : decide (((m + 1 : Nat) : Int) ≤ k) = true := by simp; omega
            have c : decide (k < ((m + 1 : Nat) : Int)) = false := by simp; omega
            have d : decide (k < (m : Int)) = false := by simp; omega
            rw [a, b, c, d]
          · have a : decide ((m : Int) ≤ k) = false := by simp; omega
            have b : decide (((m + 1 : Nat) : Int) ≤ k) = false := by simp; omega
            have c : decide (k < ((m + 1 : Nat) : Int)) = true := by simp; omega
            have d : decide (k < (m : Int)) = true := by simp; omega
            rw [a, b, c, d]
    · have hs : (decide (m < 64) && S m) = false := by
        by_cases h64 : m < 64
        · simp [h64]; cases hh : S m
          · rfl
          · exact absurd ⟨h64, hh⟩ hin
        · simp [h64]
      have key : (decide (((m + 1 : Nat) : Int) ≤ k) && decide (k < 64) && S k.toNat) = (decide ((m : Int) ≤ k) && decide (k < 64) && S k.toNat) := by
        by_cases hk : k = m
        · subst hk
          have e : (decide ((m : Int) < 64)) = decide (m < 64) := by simp; omega
          have e2 : decide (((m + 1 : Nat) : Int) ≤ (m : Int)) = false := by simp; omega
          rw [e, e2]
          simp at hs ⊢
          intro h; exact (hs h)
        · have e : decide (((m + 1 : Nat) : Int) ≤ k) = decide ((m : Int) ≤ k) := by simp; omega
          rw [e]
      by_cases hf : f < 0
      · rw [runs_out S n m f hs hf, ih (m + 1) f (by omega) (by omega) (by omega), key]
        have e1 : decide (0 ≤ f) = false := by simp; omega
        rw [e1]; simp
      · rw [runs_end S n m f hs (by omega), has_cons, ih (m + 1) (-1) (by omega) (by omega) (by omega), key]
        have e1 : decide (0 ≤ f) = true := by simp; omega
        rw [e1]; simp
theorem has_canon (S : Nat → Bool) (k : Int) : has (canon S) k = (decide (0 ≤ k) && decide (k < 64) && S k.toNat) := by
  rw [canon, has_runs S k 65 0 (-1) (by omega) (by omega) (by omega)]; simp
theorem setOf_canon (S : Nat → Bool) (k : Nat) (hk : k < 64) : setOf (canon S) k = S k := by
  rw [setOf, has_canon]; simp; omega
theorem canon_inj {S T : Nat → Bool} : canon S = canon T ↔ ∀ k, k < 64 → S k = T k :=
  ⟨fun h k hk => by rw [← setOf_canon S k hk, ← setOf_canon T k hk, h], canon_ext⟩
theorem canon_again (S : Nat → Bool) : canon (setOf (canon S)) = canon S := canon_ext fun k hk => setOf_canon S k hk

/-- What is true of each span of a canonical list. -/
theorem runs_gaps (S : Nat → Bool) : ∀ (n m : Nat) (f : Int), n + m = 65 → (n = 0 → f < 0) → f < m →
    (0 ≤ f → (∀ k : Nat, f ≤ k → k < m → S k = true) ∧ (f = 0 ∨ S (f.toNat - 1) = false)) → (f < 0 → m = 0 ∨ m = 65 ∨ S (m - 1) = false) →
    ∀ s ∈ runs S n m f, 0 ≤ s.1 ∧ s.1 < s.2 ∧ s.2 ≤ 64 ∧ S s.1.toNat = true ∧ S (s.2.toNat - 1) = true ∧ (s.1 = 0 ∨ S (s.1.toNat - 1) = false) ∧ (s.2 = 64 ∨ S s.2.toNat = false) := by
  intro n
  induction n with
  | zero => intro m f _ _ _ _ _ s hs; simp [runs] at hs
  | succ n ih =>
    intro m f hm h0 hfm hopen hshut s hs
    by_cases hin : m < 64 ∧ S m = true
    · obtain ⟨h64, hsm⟩ := hin
      by_cases hf : f < 0
      · rw [runs_in_new S n m f h64 hsm hf] at hs
        refine ih (m + 1) m (by omega) (by omega) (by omega) (fun _ => ⟨fun k h1 h2 => ?_, ?_⟩) (by omega) s hs
        · have : k = m := by omega
          rw [this]; exact hsm
        · rcases hshut hf with h | h | h
          · left; omega
          · omega
          · right; simpa using h
      · rw [runs_in_on S n m f h64 hsm (by omega)] at hs
        obtain ⟨g1, g2⟩ := hopen (by omega)
        refine ih (m + 1) f (by omega) (by omega) (by omega) (fun _ => ⟨fun k h1 h2 => ?_, g2⟩) (by omega) s hs
        by_cases hk : k = m
        · rw [hk]; exact hsm
        · exact g1 k h1 (by omega)
    · have hso : (decide (m < 64) && S m) = false := by
        by_cases h64 : m < 64
        · simp [h64]; cases hh : S m
          · rfl
          · exact absurd ⟨h64, hh⟩ hin
        · simp [h64]
      have hno : m + 1 = 65 ∨ S (m + 1 - 1) = false := by
        by_cases h64 : m < 64
        · right; simpa [h64] using hso
        · left; omega
      by_cases hf : f < 0
      · rw [runs_out S n m f hso hf] at hs
        exact ih (m + 1) f (by omega) (by omega) (by omega) (by omega) (fun _ => .inr hno) s hs
      · rw [runs_end S n m f hso (by omega)] at hs
        rcases List.mem_cons.1 hs with rfl | hs
        · obtain ⟨g1, g2⟩ := hopen (by omega)
          refine ⟨by simp; omega, by simp; omega, by simp; omega, g1 f.toNat (by omega) (by omega), g1 _ (by simp; omega) (by simp; omega), g2, ?_⟩
          rcases hno with h | h
          · left; simp; omega
          · right; simpa using h
        · exact ih (m + 1) (-1) (by omega) (by omega) (by omega) (by omega) (fun _ => .inr hno) s hs
theorem canon_gaps (S : Nat → Bool) : ∀ s ∈ canon S, 0 ≤ s.1 ∧ s.1 < s.2 ∧ s.2 ≤ 64 ∧ S s.1.toNat = true ∧ S (s.2.toNat - 1) = true ∧ (s.1 = 0 ∨ S (s.1.toNat - 1) = false) ∧ (s.2 = 64 ∨ S s.2.toNat = false) :=
  runs_gaps S 65 0 (-1) (by omega) (by omega) (by omega) (by omega) (fun _ => .inl rfl)

/-- How many moments of the first n from m on begin a span; p: whether the moment ahead of m is in the set. -/
def starts (S : Nat → Bool) : Nat → Nat → Bool → Nat
  | 0, _, _ => 0
  | n + 1, m, p => (if S m && !p then 1 else 0) + starts S n (m + 1) (S m)
theorem runs_length (S : Nat → Bool) : ∀ (n m : Nat) (f : Int), n + 1 + m = 65 → (runs S (n + 1) m f).length = starts S n m (decide (0 ≤ f)) + (if 0 ≤ f then 1 else 0) := by
  intro n
  induction n with
  | zero =>
    intro m f hm
    have e : m = 64 := by omega
    subst e
    by_cases hf : f < 0
    · rw [runs_out S 0 64 f (by simp) hf]; simp [runs, starts]; omega
    · rw [runs_end S 0 64 f (by simp) (by omega)]; simp [runs, starts]; omega
  | succ n ih =>
    intro m f hm
    have h64 : m < 64 := by omega
    cases hs : S m
    · by_cases hf : f < 0
      · rw [runs_out S (n + 1) m f (by simp [hs]) hf, ih _ _ (by omega)]
        have e1 : decide (0 ≤ f) = false := by simp; omega
        rw [e1]; simp [starts, hs]
      · rw [runs_end S (n + 1) m f (by simp [hs]) (by omega), List.length_cons, ih _ _ (by omega)]
        have e1 : decide (0 ≤ f) = true := by simp; omega
        rw [e1]; simp [starts, hs]; omega
    · by_cases hf : f < 0
      · rw [runs_in_new S (n + 1) m f h64 hs hf, ih _ _ (by omega)]
        have e1 : decide (0 ≤ f) = false := by simp; omega
        have e2 : decide (0 ≤ (m : Int)) = true := by simp
        have e3 : ¬ 0 ≤ f := by omega
        rw [e1, e2]; simp [starts, hs, e3]; omega
      · rw [runs_in_on S (n + 1) m f h64 hs (by omega), ih _ _ (by omega)]
        have e1 : decide (0 ≤ f) = true := by simp; omega
        rw [e1]; simp [starts, hs]
theorem canon_length (S : Nat → Bool) : (canon S).length = starts S 64 0 false := by
  have := runs_length S 64 0 (-1) (by omega)
  simpa [canon] using this
theorem starts_le (S : Nat → Bool) : ∀ n m p, 2 * starts S n m p + (if p then 1 else 0) ≤ n + 1 := by
  intro n
  induction n with
  | zero => intro m p; cases p <;> simp [starts]
  | succ n ih =>
    intro m p
    have := ih (m + 1) (S m)
    cases hs : S m <;> cases p <;> simp [starts, hs] at this ⊢ <;> omega
theorem canon_le (S : Nat → Bool) : (canon S).length ≤ 32 := by
  have := starts_le S 64 0 false
  rw [canon_length]; simp at this; omega

/-! ### The listing by gaps and runs of a word -/
theorem runs_skip (S : Nat → Bool) : ∀ d n m, d ≤ n → n + m = 65 → (∀ k, m ≤ k → k < m + d → k < 64 → S k = false) → runs S n m (-1) = runs S (n - d) (m + d) (-1) := by
  intro d
  induction d with
  | zero => intros; simp
  | succ d ih =>
    intro n m hd hm h
    obtain ⟨n, rfl⟩ : ∃ n', n = n' + 1 := ⟨n - 1, by omega⟩
    rw [runs_out S n m (-1) (by by_cases h64 : m < 64 <;> simp [h64]; exact h m (by omega) (by omega) h64) (by omega), ih n (m + 1) (by omega) (by omega) (fun k h1 h2 h3 => h k (by omega) (by omega) h3)]
    congr 1 <;> omega
theorem runs_over (S : Nat → Bool) : ∀ d n m (f : Int), d ≤ n → n + m = 65 → 0 ≤ f → m + d ≤ 64 → (∀ k, m ≤ k → k < m + d → S k = true) → runs S n m f = runs S (n - d) (m + d) f := by
  intro d
  induction d with
  | zero => intros; simp
  | succ d ih =>
    intro n m f hd hm hf hle h
    obtain ⟨n, rfl⟩ : ∃ n', n = n' + 1 := ⟨n - 1, by omega⟩
    rw [runs_in_on S n m f (by omega) (h m (by omega) (by omega)) hf, ih n (m + 1) f (by omega) (by omega) hf (by omega) (fun k h1 h2 => h k (by omega) (by omega))]
    congr 1 <;> omega
/-- What is left of the list at moment m, no span open. -/
def rest (S : Nat → Bool) (m : Nat) : List Sp := runs S (65 - m) m (-1)
theorem rest_zero (S : Nat → Bool) : rest S 0 = canon S := rfl
theorem rest_nil (S : Nat → Bool) (m : Nat) (hm : m ≤ 64) (h : ∀ k, m ≤ k → k < 64 → S k = false) : rest S m = [] := by
  unfold rest
  rw [runs_skip S (65 - m) (65 - m) m (by omega) (by omega) (fun k h1 _ h3 => h k h1 h3), Nat.sub_self]; rfl
theorem rest_cons (S : Nat → Bool) (m a t : Nat) (h1 : m ≤ a) (h2 : a < t) (h3 : t ≤ 64) (hgap : ∀ k, m ≤ k → k < a → S k = false) (hrun : ∀ k, a ≤ k → k < t → S k = true) (hend : t < 64 → S t = false) :
    rest S m = ((a : Int), (t : Int)) :: rest S t := by
  unfold rest
  rw [runs_skip S (a - m) (65 - m) m (by omega) (by omega) (fun k g1 g2 _ => hgap k g1 (by omega))]
  have e1 : 65 - m - (a - m) = (64 - a) + 1 := by omega
  have e2 : m + (a - m) = a := by omega
  rw [e1, e2, runs_in_new S (64 - a) a (-1) (by omega) (hrun a (by omega) h2) (by omega), runs_over S (t - a - 1) (64 - a) (a + 1) a (by omega) (by omega) (by omega) (by omega) (fun k g1 g2 => hrun k (by omega) (by omega))]
  have e3 : 64 - a - (t - a - 1) = (64 - t) + 1 := by omega
  have e4 : a + 1 + (t - a - 1) = t := by omega
  have hno : (decide (t < 64) && S t) = false := by by_cases h : t < 64 <;> simp [h]; exact hend h
  rw [e3, e4, runs_end S (64 - t) t a hno (by omega)]
  have e5 : 65 - t = (64 - t) + 1 := by omega
  rw [e5, runs_out S (64 - t) t (-1) hno (by omega)]
end Go.Proofs.YtdibijhaiaiifaaDoor
/- A set of moments as the bits of a 64-bit word: the plain arithmetic, no program in sight. -/
namespace Go.Proofs.YtdibijhaiaiifaaDoor
def top64 : Nat := 18446744073709551615
def belowN (n : Int) : Nat := if n ≤ 0 then 0 else if 64 ≤ n then top64 else 2 ^ n.toNat - 1
theorem top_bit (k : Nat) : top64.testBit k = decide (k < 64) := by
  have : top64 = 2 ^ 64 - 1 := rfl
  rw [this, Nat.testBit_two_pow_sub_one]
theorem belowN_lt (n : Int) : belowN n < 18446744073709551616 := by
  unfold belowN
  split
  · omega
  · split
    · unfold top64; omega
    · have : 2 ^ n.toNat ≤ 2 ^ 63 := Nat.pow_le_pow_right (by omega) (by omega)
      have : (2 : Nat) ^ 63 = 9223372036854775808 := rfl
      omega
theorem belowN_bit (n : Int) (k : Nat) (hk : k < 64) : (belowN n).testBit k = decide ((k : Int) < n) := by
  unfold belowN
  split
  · simp; omega
  · split
    · rw [top_bit]; rw [decide_eq_decide]; omega
    · rw [Nat.testBit_two_pow_sub_one]; rw [decide_eq_decide]; omega
def notW (x : Nat) : Nat := top64 - x
theorem notW_lt (x : Nat) : notW x < 18446744073709551616 := by unfold notW top64; omega
theorem notW_bit (x k : Nat) (hx : x < 18446744073709551616) (hk : k < 64) : (notW x).testBit k = !x.testBit k := by
  have : notW x = 2 ^ 64 - (x + 1) := by unfold notW top64; omega
  rw [this, Nat.testBit_two_pow_sub_succ (by exact hx)]; simp [hk]
theorem and_lt {x y : Nat} (hy : y < 18446744073709551616) : x &&& y < 18446744073709551616 := Nat.lt_of_le_of_lt Nat.and_le_right hy
theorem or_lt {x y : Nat} (hx : x < 18446744073709551616) (hy : y < 18446744073709551616) : x ||| y < 18446744073709551616 := Nat.or_lt_two_pow (n := 64) hx hy
def spanW (s : Sp) : Nat := belowN s.2 &&& notW (belowN s.1)
def ofW (l : List Sp) : Nat := l.foldl (fun w s => w ||| spanW s) 0
theorem spanW_lt (s : Sp) : spanW s < 18446744073709551616 := and_lt (notW_lt _)
theorem spanW_bit (s : Sp) (k : Nat) (hk : k < 64) : (spanW s).testBit k = (decide (s.1 ≤ (k : Int)) && decide ((k : Int) < s.2)) := by
  unfold spanW
  rw [Nat.testBit_and, notW_bit _ _ (belowN_lt _) hk, belowN_bit _ _ hk, belowN_bit _ _ hk, Bool.and_comm]
  congr 1
  rw [← decide_not, decide_eq_decide]; omega
theorem foldW (l : List Sp) : ∀ w : Nat, w < 18446744073709551616 → l.foldl (fun w s => w ||| spanW s) w < 18446744073709551616 ∧
    ∀ k, k < 64 → (l.foldl (fun w s => w ||| spanW s) w).testBit k = (w.testBit k || setOf l k) := by
  induction l with
  | nil => intro w h; exact ⟨h, fun k _ => by simp [setOf, has]⟩
  | cons s l ih =>
    intro w h
    obtain ⟨a, b⟩ := ih (w ||| spanW s) (or_lt h (spanW_lt s))
    refine ⟨a, fun k hk => ?_⟩
    rw [List.foldl_cons, b k hk, Nat.testBit_or, spanW_bit s k hk]
    simp [setOf, has_cons, Bool.or_assoc]
theorem ofW_lt (l : List Sp) : ofW l < 18446744073709551616 := (foldW l 0 (by omega)).1
theorem ofW_bit (l : List Sp) (k : Nat) (hk : k < 64) : (ofW l).testBit k = setOf l k := by
  rw [ofW, (foldW l 0 (by omega)).2 k hk]; simp
theorem ofW_snoc (l : List Sp) (s : Sp) : ofW (l ++ [s]) = ofW l ||| spanW s := by simp [ofW]
theorem ofW_take (l : List Sp) (k : Nat) (h : k < l.length) : ofW (l.take (k + 1)) = ofW (l.take k) ||| spanW (l.getD k (0, 0)) := by
  rw [List.take_succ_eq_append_getElem h, ofW_snoc]; simp [h]
/-- The bits as a set. -/
def bitsOf (x : Nat) (k : Nat) : Bool := x.testBit k
theorem canon_ofW (l : List Sp) : canon (bitsOf (ofW l)) = canon (setOf l) := canon_ext fun k hk => ofW_bit l k hk
theorem canon_notW (x : Nat) (hx : x < 18446744073709551616) : canon (bitsOf (notW x)) = canon fun k => !x.testBit k := canon_ext fun k hk => notW_bit x k hx hk
/-- The number of moments of a list. -/
def size (l : List Sp) : Nat := (List.range 64).countP (setOf l)
theorem ones_ofW (l : List Sp) : onesOf (ofW l) = size l := by
  rw [ones_eq]
  unfold cntBits size
  refine List.countP_congr fun k hk => ?_
  rw [ofW_bit l k (by simpa using hk)]

/-! ### Trailing zeros -/
theorem div_bit (x a k : Nat) : (x / 2 ^ a).testBit k = x.testBit (a + k) := by rw [Nat.testBit_div_two_pow, Nat.add_comm]
theorem ctz_bits (y : Nat) (h0 : y ≠ 0) (h : y < 2 ^ 64) : Lib.ctz 64 y < 64 ∧ y.testBit (Lib.ctz 64 y) = true ∧ ∀ k, k < Lib.ctz 64 y → y.testBit k = false := by
  obtain ⟨m, hm, hk⟩ := Lib.ctzFrom_spec 64 y (by omega) h
  have e : Lib.ctz 64 y = Lib.ctzFrom 64 y := by simp [Lib.ctz, h0]
  rw [e]
  generalize Lib.ctzFrom 64 y = c at *
  subst hm
  refine ⟨hk, ?_, fun k hk' => ?_⟩
  · rw [Nat.mul_comm, Nat.testBit_mul_two_pow]
    simp [Nat.testBit_zero]
  · rw [Nat.mul_comm, Nat.testBit_mul_two_pow]
    have : ¬ c ≤ k := by omega
    simp [this]
/-- The next span at or after moment m: where it begins and where it ends. -/
def begOf (x m : Nat) : Nat := m + Lib.ctz 64 (x / 2 ^ m)
def tillOf (x a : Nat) : Nat := a + Lib.ctz 64 (notW (x / 2 ^ a))
theorem div_lt (x m : Nat) (hx : x < 18446744073709551616) : x / 2 ^ m < 18446744073709551616 := Nat.lt_of_le_of_lt (Nat.div_le_self _ _) hx
theorem rest_none (x m : Nat) (hm : m ≤ 64) (h : x / 2 ^ m = 0) : rest (bitsOf x) m = [] := by
  refine rest_nil _ _ hm fun k h1 _ => ?_
  have := div_bit x m (k - m)
  rw [h, Nat.zero_testBit] at this
  rw [bitsOf, show k = m + (k - m) from by omega, ← this]
theorem rest_some (x m : Nat) (hx : x < 18446744073709551616) (hm : m ≤ 64) (h : x / 2 ^ m ≠ 0) :
    m ≤ begOf x m ∧ begOf x m < tillOf x (begOf x m) ∧ tillOf x (begOf x m) ≤ 64 ∧ Lib.ctz 64 (x / 2 ^ m) < 64 ∧ Lib.ctz 64 (notW (x / 2 ^ (begOf x m))) ≤ 64 ∧
    rest (bitsOf x) m = ((begOf x m : Int), (tillOf x (begOf x m) : Int)) :: rest (bitsOf x) (tillOf x (begOf x m)) := by
  obtain ⟨c1, c2, c3⟩ := ctz_bits _ h (div_lt x m hx)
  rw [div_bit] at c2
  have hb : x.testBit (begOf x m) = true := c2
  have hb64 : begOf x m < 64 := by
    rcases Nat.lt_or_ge (begOf x m) 64 with h | h
    · exact h
    · rw [Nat.testBit_lt_two_pow (Nat.lt_of_lt_of_le hx (Nat.pow_le_pow_right (n := 2) (by omega) h))] at hb
      cases hb
  generalize ha : begOf x m = a at *
  have hma : m ≤ a := by unfold begOf at ha; omega
  have hgap : ∀ k, m ≤ k → k < a → bitsOf x k = false := fun k h1 h2 => by
    have := c3 (k - m) (by unfold begOf at ha; omega)
    rw [div_bit, show m + (k - m) = k from by omega] at this
    exact this
  have hnb : ∀ k, a + k < 64 → (notW (x / 2 ^ a)).testBit k = !x.testBit (a + k) := fun k hk => by rw [notW_bit _ _ (div_lt x a hx) (by omega), div_bit]
  by_cases hz : notW (x / 2 ^ a) = 0
  · -- all ones: it can only be a = 0
    have hy : x / 2 ^ a = 18446744073709551615 := by
      have := div_lt x a hx
      unfold notW top64 at hz; omega
    have ha0 : a = 0 := by
      rcases Nat.eq_zero_or_pos a with h | h
      · exact h
      · have : x / 2 ^ a ≤ x / 2 ^ 1 := Nat.div_le_div_left (Nat.pow_le_pow_right (n := 2) (by omega) h) (by omega)
        omega
    have ht : tillOf x a = 64 := by
      unfold tillOf
      rw [hz, ha0]; rfl
    have hc : Lib.ctz 64 (notW (x / 2 ^ a)) = 64 := by rw [hz]; rfl
    refine ⟨hma, by omega, by omega, c1, by omega, ?_⟩
    rw [ht]
    refine rest_cons _ _ _ _ hma (by omega) (by omega) hgap (fun k h1 h2 => ?_) (by omega)
    have := hnb (k - a) (by omega)
    rw [hz, Nat.zero_testBit, show a + (k - a) = k from by omega] at this
    simpa [bitsOf] using this
  · obtain ⟨d1, d2, d3⟩ := ctz_bits _ hz (notW_lt _)
    have hd0 : 0 < Lib.ctz 64 (notW (x / 2 ^ a)) := by
      rcases Nat.eq_zero_or_pos (Lib.ctz 64 (notW (x / 2 ^ a))) with h | h
      · rw [h] at d2
        rw [hnb 0 (by omega), Nat.add_zero, hb] at d2
        cases d2
      · exact h
    have hle : tillOf x a ≤ 64 := by
      rcases Nat.lt_or_ge 64 (tillOf x a) with h | h
      · have h1 := d3 (64 - a) (by unfold tillOf at h; omega)
        have h2 : x / 2 ^ a < 2 ^ (64 - a) := by
          rw [Nat.div_lt_iff_lt_mul (Nat.two_pow_pos a), ← Nat.pow_add, show 64 - a + a = 64 from by omega]; exact hx
        have ha1 : 0 < a := by unfold tillOf at h; omega
        rw [notW_bit _ _ (div_lt x a hx) (by omega), Nat.testBit_lt_two_pow h2] at h1
        cases h1
      · exact h
    refine ⟨hma, by unfold tillOf; omega, hle, c1, by omega, ?_⟩
    refine rest_cons _ _ _ _ hma (by unfold tillOf; omega) hle hgap (fun k h1 h2 => ?_) (fun h => ?_)
    · have h3 := d3 (k - a) (by unfold tillOf at h2; omega)
      rw [hnb _ (by omega), show a + (k - a) = k from by omega] at h3
      simpa [bitsOf] using h3
    · have e : tillOf x a = a + Lib.ctz 64 (notW (x / 2 ^ a)) := rfl
      rw [hnb _ (by omega), ← e] at d2
      simpa [bitsOf] using d2
end Go.Proofs.YtdibijhaiaiifaaDoor
/- Words for memory: a slice of spans that reads as a list; what a call keeps. -/
namespace Go.Proofs.YtdibijhaiaiifaaDoor
open Go.RowKit
theorem cell_lt {w : World} {p : Addr} {v : Value} (h : w.cell? p = some v) : p.block < w.heap.size := by
  unfold World.cell? at h
  rcases Nat.lt_or_ge p.block w.heap.size with hlt | hge
  · exact hlt
  · rw [Array.getElem?_eq_none hge] at h; cases h
theorem cell_keep {w w' : World} {p : Addr} {v : Value} (hb : Below w.heap.size w w') (h : w.cell? p = some v) : w'.cell? p = some v := (hb.cell (cell_lt h)).trans h
theorem below_trans {w w1 w2 : World} (h : Below w.heap.size w w1) (k : Below w1.heap.size w1 w2) : Below w.heap.size w w2 := h.trans (k.mono h.size)
/-- The key words, as the text of package value lays them. -/
def keyWords : List (List UInt8) := ["lattice", "function", "on", "base", "view", "key", "deny", "not", "int", "sym"].map fun s => s.toUTF8.data.toList
abbrev strV (l : List UInt8) : Value := .string ⟨l.toArray⟩
/-- The tables: the library's and the key words. -/
def Tab (w : World) : Prop := (∀ j, j < 64 → w.cell? ⟨1, j, none⟩ = some (.int .u8 (Lib.deBruijn64tab.getD j 0))) ∧ ∀ j, j < 10 → w.cell? ⟨0, j, none⟩ = some (strV (keyWords.getD j []))
theorem Tab.keep {w w' : World} (h : Tab w) (hb : Below w.heap.size w w') : Tab w' := ⟨fun j hj => cell_keep hb (h.1 j hj), fun j hj => cell_keep hb (h.2 j hj)⟩
def SpansAt (w : World) (a : Option Addr) (l : List Sp) : Prop :=
  l = [] ∨ ∃ b off, a = some ⟨b, off, none⟩ ∧ ∀ i, i < l.length → w.cell? ⟨b, off + i * 2, none⟩ = some (.int .i64 (l.getD i (0, 0)).1) ∧ w.cell? ⟨b, off + i * 2 + 1, none⟩ = some (.int .i64 (l.getD i (0, 0)).2)
theorem SpansAt.keep {w w' : World} {a : Option Addr} {l : List Sp} (h : SpansAt w a l) (hb : Below w.heap.size w w') : SpansAt w' a l := by
  rcases h with h | ⟨b, off, ha, hc⟩
  · exact .inl h
  · exact .inr ⟨b, off, ha, fun i hi => ⟨cell_keep hb (hc i hi).1, cell_keep hb (hc i hi).2⟩⟩
theorem SpansAt.at_ {w : World} {a : Option Addr} {l : List Sp} (h : SpansAt w a l) {i : Nat} (hi : i < l.length) :
    ∃ b off, a = some ⟨b, off, none⟩ ∧ ∀ i, i < l.length → w.cell? ⟨b, off + i * 2, none⟩ = some (.int .i64 (l.getD i (0, 0)).1) ∧ w.cell? ⟨b, off + i * 2 + 1, none⟩ = some (.int .i64 (l.getD i (0, 0)).2) := by
  rcases h with h | h
  · subst h; simp at hi
  · exact h
/-- The value v is a slice that reads as the list l. -/
def IsSpans (w : World) (v : Value) (l : List Sp) : Prop := ∃ a c, v = .slice a l.length c ∧ SpansAt w a l ∧ l.length ≤ 9223372036854775807 ∧ l.length ≤ c ∧ c ≤ 9223372036854775807
theorem IsSpans.keep {w w' : World} {v : Value} {l : List Sp} (h : IsSpans w v l) (hb : Below w.heap.size w w') : IsSpans w' v l := by
  obtain ⟨a, c, e, h, k⟩ := h
  exact ⟨a, c, e, h.keep hb, k⟩
/-- The value is no slice of an elder block. -/
def Fresh (base : Nat) (v : Value) : Prop := ∀ b, v.ownBlock = some b → base ≤ b
theorem Fresh.mono {a b : Nat} {v : Value} (h : Fresh b v) (hab : a ≤ b) : Fresh a v := fun k hk => Nat.le_trans hab (h k hk)
def IsSpansF (w : World) (base : Nat) (v : Value) (l : List Sp) : Prop := IsSpans w v l ∧ Fresh base v
theorem ret_int {k : IntKind} {a b : Int} (h : a = b) : Ending.returned (.int k a) = .returned (.int k b) := by rw [h]
end Go.Proofs.YtdibijhaiaiifaaDoor
/- The walks of the leaves: few, below, the library's bit counts, of. -/
namespace Go.Proofs.YtdibijhaiaiifaaDoor
open Go.RowKit
theorem below_any (n : Int) (w : World) :
    Calls Tryd.prog 131 #[.int .i64 n] w fun e w' => e = .returned (.int .u64 (belowN n : Nat)) ∧ w = w' := by
  by_cases h0 : n ≤ 0
  · have H := Lib.hid (show belowN n = 0 from by simp [belowN, h0])
    go_enter Tryd.func131, Tryd.ntmps131
    go_wp2
    go_ret
    exact ⟨by rw [H.out]; rfl, rfl⟩
  · by_cases h1 : 64 ≤ n
    · have H := Lib.hid (show belowN n = top64 from by simp [belowN, h0, h1])
      go_enter Tryd.func131, Tryd.ntmps131
      go_wp2
      go_ret
      exact ⟨by rw [H.out]; rfl, rfl⟩
    · have h2 : 0 < n := by omega
      have H := Lib.hid (show IntKind.u64.wrap (IntKind.u64.wrap (2 ^ n.toNat) - 1) = (belowN n : Nat) from by
        have p : 2 ^ n.toNat ≤ 2 ^ 63 := Nat.pow_le_pow_right (by omega) (by omega)
        have q : (2 : Nat) ^ 63 = 9223372036854775808 := rfl
        have r : 0 < 2 ^ n.toNat := Nat.two_pow_pos _
        have e : ((2 : Int) ^ n.toNat) = ((2 ^ n.toNat : Nat) : Int) := by rw [Int.natCast_pow]; rfl
        simp only [belowN, h0, h1, if_false, IntKind.wrap_u64]
        rw [e]
        generalize 2 ^ n.toNat = y at *
        omega)
      go_enter Tryd.func131, Tryd.ntmps131
      go_wp2
      go_ret
      exact ⟨ret_int H.out, rfl⟩
theorem wrapN (y : Nat) : IntKind.u64.wrap (y : Int) = ((y % 18446744073709551616 : Nat) : Int) := by rw [IntKind.wrap_u64]; omega
theorem ones1 (x : Nat) (hx : x < 18446744073709551616) : IntKind.u64.wrap (bits .and .u64 ((x : Int) / 2) 6148914691236517205 + bits .and .u64 (x : Int) 6148914691236517205) = ((s1 8 x : Nat) : Int) ∧ s1 8 x < 18446744073709551616 := by
  have a : x / 2 &&& 6148914691236517205 ≤ 6148914691236517205 := Nat.and_le_right
  have b : x &&& 6148914691236517205 ≤ 6148914691236517205 := Nat.and_le_right
  have e := bits_and_u64_nat (x / 2) 6148914691236517205 (by omega) (by omega)
  have f := bits_and_u64_nat x 6148914691236517205 hx (by omega)
  rw [show ((x : Int) / 2) = ((x / 2 : Nat) : Int) from by omega]
  rw [show (6148914691236517205 : Int) = ((6148914691236517205 : Nat) : Int) from rfl, e, f, ← Int.natCast_add, wrapN]
  unfold s1; rw [rep85]
  exact ⟨by rw [Nat.mod_eq_of_lt (by omega)], by omega⟩
theorem ones2 (x : Nat) (hx : x < 18446744073709551616) : IntKind.u64.wrap (bits .and .u64 ((x : Int) / 4) 3689348814741910323 + bits .and .u64 (x : Int) 3689348814741910323) = ((s2 8 x : Nat) : Int) ∧ s2 8 x < 18446744073709551616 := by
  have a : x / 4 &&& 3689348814741910323 ≤ 3689348814741910323 := Nat.and_le_right
  have b : x &&& 3689348814741910323 ≤ 3689348814741910323 := Nat.and_le_right
  have e := bits_and_u64_nat (x / 4) 3689348814741910323 (by omega) (by omega)
  have f := bits_and_u64_nat x 3689348814741910323 hx (by omega)
  rw [show ((x : Int) / 4) = ((x / 4 : Nat) : Int) from by omega]
  rw [show (3689348814741910323 : Int) = ((3689348814741910323 : Nat) : Int) from rfl, e, f, ← Int.natCast_add, wrapN]
  unfold s2; rw [rep51]
  exact ⟨by rw [Nat.mod_eq_of_lt (by omega)], by omega⟩
theorem ones3 (x : Nat) : bits .and .u64 (IntKind.u64.wrap ((x : Int) / 16 + (x : Int))) 1085102592571150095 = ((s3 8 x : Nat) : Int) ∧ s3 8 x < 18446744073709551616 := by
  rw [show ((x : Int) / 16) = ((x / 16 : Nat) : Int) from by omega, ← Int.natCast_add, wrapN]
  have f := bits_and_u64_nat ((x / 16 + x) % 18446744073709551616) 1085102592571150095 (by omega) (by omega)
  rw [show (1085102592571150095 : Int) = ((1085102592571150095 : Nat) : Int) from rfl, f]
  have a : (x / 16 + x) &&& 1085102592571150095 ≤ 1085102592571150095 := Nat.and_le_right
  have h1 : ((x / 16 + x) &&& 1085102592571150095) % 2 ^ 64 = ((x / 16 + x) % 2 ^ 64) &&& (1085102592571150095 % 2 ^ 64) := Nat.and_mod_two_pow
  rw [show (2 : Nat) ^ 64 = 18446744073709551616 from rfl, Nat.mod_eq_of_lt (by omega)] at h1
  unfold s3; rw [rep15]
  exact ⟨by rw [h1], by omega⟩
theorem fold1 (y m : Nat) : IntKind.u64.wrap ((y : Int) + (y : Int) / (m : Int)) = (((y + y / m) % 18446744073709551616 : Nat) : Int) := by
  rw [← Int.natCast_ediv, ← Int.natCast_add, wrapN]
theorem ofInt64 (z : Int) : (BitVec.ofInt 64 z).toNat = (z % 18446744073709551616).toNat := by
  rw [BitVec.toNat_ofInt]; rfl
theorem last1 (y : Nat) (h : y < 18446744073709551616) : bits .and .i64 (wrap64 (y : Int)) 127 = ((y % 128 : Nat) : Int) := by
  have e : (BitVec.ofInt 64 (wrap64 (y : Int))).toNat = y := by
    rw [ofInt64]
    unfold wrap64
    omega
  show IntKind.i64.wrap ((BitVec.ofInt 64 (wrap64 (y : Int)) &&& BitVec.ofInt 64 127).toNat : Int) = _
  rw [BitVec.toNat_and, e, show (BitVec.ofInt 64 127).toNat = 127 from rfl, Nat.and_two_pow_sub_one_eq_mod y 7, IntKind.wrap_i64]
  omega
theorem tz_key (x a : Nat) (hx : x < 18446744073709551616) (hx0 : x ≠ 0) (hlow : x &&& (18446744073709551616 - x) = a) :
    IntKind.u64.wrap (bits BinOp.and IntKind.u64 (x : Int) (IntKind.u64.wrap (-(x : Int))) * 285870213051353865) / 288230376151711744 = ((a * 285870213051353865 % 18446744073709551616 / 288230376151711744 : Nat) : Int) := by
  have e1 : IntKind.u64.wrap (-(x : Int)) = ((18446744073709551616 - x : Nat) : Int) := by rw [IntKind.wrap_u64]; omega
  rw [e1, bits_and_u64_nat x _ hx (by omega), hlow, IntKind.wrap_u64]
  omega
set_option maxHeartbeats 1000000 in
theorem tz_core (x k idx : Nat) (w : World) (hx0 : ((x : Int) == 0) = false)
    (key : IntKind.u64.wrap (bits BinOp.and IntKind.u64 (x : Int) (IntKind.u64.wrap (-(x : Int))) * 285870213051353865) / 288230376151711744 = (idx : Int))
    (hi : idx < 64) (hk : k < 64) (hcell : w.cell? ⟨1, idx, none⟩ = some (.int .u8 k)) :
    Calls Tryd.prog 145 #[.int .u64 x] w fun e w' => e = .returned (.int .i64 k) ∧ w = w' := by
  go_enter Tryd.func145, Tryd.ntmps145
  go_wp2_with (simp only [key])
  go_ret
  exact ⟨rfl, rfl⟩
theorem tz_zero (w : World) : Calls Tryd.prog 145 #[.int .u64 0] w fun e w' => e = .returned (.int .i64 64) ∧ w = w' := by
  go_enter Tryd.func145, Tryd.ntmps145
  go_wp2
  go_ret
  exact ⟨rfl, rfl⟩
theorem tz_any (x : Nat) (hx : x < 18446744073709551616) (w : World) (hT : Tab w) :
    Calls Tryd.prog 145 #[.int .u64 x] w fun e w' => e = .returned (.int .i64 (Lib.ctz 64 x)) ∧ w = w' := by
  by_cases hx0 : x = 0
  · subst hx0
    exact tz_zero w
  · obtain ⟨hlow, hk⟩ := Lib.lowest_bit 64 x hx0 hx
    obtain ⟨hi, htab⟩ := Lib.deBruijn64_at _ hk
    have hcell := hT.1 _ hi
    rw [htab] at hcell
    exact tz_core x _ _ w (by simp; omega) (tz_key x _ hx hx0 hlow) hi hk hcell
theorem quiet_left {P : Program} {f : FuncId} {args : Array Value} {w : World} {n : Nat} {v : Value}
    (h : Calls P f args (w.drewN n) fun e w' => e = .returned v ∧ w.drewN n = w') : Calls P f args (w.drewN n) fun e w'' => e = .returned v ∧ ∃ m, w'' = w.drewN m :=
  h.mono fun _ _ ⟨he, hm⟩ => ⟨he, n, hm.symm⟩
theorem below_drewN {B : Nat} {a w : World} (h : Below B a w) (n : Nat) : Below B a (w.drewN n) := ⟨h.os, h.tape, h.output, h.size, h.block⟩
theorem or_step (x : Nat) (hx : x < 18446744073709551616) (p q : Int) : bits .or .u64 (x : Int) (bits .andNot .u64 (belowN q : Nat) (belowN p : Nat)) = ((x ||| spanW (p, q) : Nat) : Int) := by
  rw [u64_andNot_nat _ _ (belowN_lt q) (belowN_lt p), u64_or_nat _ _ hx (and_lt (by omega))]
  rfl
set_option maxHeartbeats 1000000 in
theorem of_any (v : Value) (l : List Sp) (w : World) (h : IsSpans w v l) :
    Calls Tryd.prog 95 #[v] w fun e w' => e = .returned (.int .u64 (ofW l)) ∧ Below w.heap.size w w' := by
  obtain ⟨a, c, rfl, hs, hm⟩ := h
  go_enter Tryd.func95, Tryd.ntmps95
  go_wp2
  go_loopw [3, 8] (fun t i wr => ∃ k : Nat, k ≤ l.length ∧ i = .int .i64 k ∧ t = .int .u64 (ofW (l.take k)) ∧ Below w.heap.size w wr) (fun _ i _ => l.length - (intOf i).toNat)
  case atStart => exact ⟨0, Nat.zero_le _, rfl, rfl, Below.refl _ _⟩
  case round =>
    obtain ⟨k, hk, rfl, rfl, hb⟩ := hrel
    by_cases hlt : k < l.length
    · obtain ⟨b, off, rfl, hcs⟩ := (hs.keep hb).at_ hlt
      obtain ⟨c1, c2⟩ := hcs k hlt
      have HS := Lib.hid (ofW_take l k hlt)
      clear hcs
      generalize l.getD k (0, 0) = s at *
      obtain ⟨p, q⟩ := s
      go_wp2
      go_quiet ((go_at_call 131; exact quiet_left (below_any _ _)))
      go_wp2
      go_roundw
      case rel => exact ⟨k + 1, by omega, by go_num, by rw [or_step _ (ofW_lt _), HS.out], below_drewN (hb.alloc hb.size _) _⟩
      case measure => simp [intOf]; omega
    · have e : k = l.length := by omega
      subst e
      go_wp2
      go_ret
      exact ⟨by simp, hb⟩
end Go.Proofs.YtdibijhaiaiifaaDoor
/- The walk of the iterator over the maximal spans, and the rule for a loop over a method value. -/
namespace Go.Proofs.YtdibijhaiaiifaaDoor
open Go.RowKit Go.Shelf
attribute [local go_sem] Oper.semAt_some
theorem xor_top (y : Nat) (hy : y < 18446744073709551616) : bits .xor .u64 IntKind.u64.max (y : Int) = ((notW y : Nat) : Int) := by
  rw [show IntKind.u64.max = ((18446744073709551615 : Nat) : Int) from rfl, u64_xor_nat _ _ (by omega) hy]
  congr 1
  apply Nat.eq_of_testBit_eq
  intro k
  rw [Nat.testBit_xor]
  have ht := top_bit k
  unfold top64 at ht
  rw [ht]
  by_cases hk : k < 64
  · rw [notW_bit _ _ hy hk]; simp [hk]
  · rw [Nat.testBit_lt_two_pow (Nat.lt_of_lt_of_le (notW_lt y) (Nat.pow_le_pow_right (n := 2) (by omega) (show 64 ≤ k by omega))), Nat.testBit_lt_two_pow (Nat.lt_of_lt_of_le hy (Nat.pow_le_pow_right (n := 2) (by omega) (show 64 ≤ k by omega)))]
    simp [hk]
theorem castDiv (x m : Nat) : ((x : Int) / 2 ^ m) = ((x / 2 ^ m : Nat) : Int) := by
  rw [Int.natCast_ediv, Int.natCast_pow]; rfl
theorem tz_int (y c : Nat) (z : Int) (h : z = y) (hc : Lib.ctz 64 y = c) (hy : y < 18446744073709551616) (w : World) (hT : Tab w) :
    Calls Tryd.prog 145 #[.int .u64 z] w fun e w' => e = .returned (.int .i64 c) ∧ w = w' := by
  subst h; subst hc; exact tz_any y hy w hT
set_option maxRecDepth 100000 in
set_option maxHeartbeats 1000000 in
theorem spans_in (l x : Nat) (hx : x < 18446744073709551616) (J : List Sp → World → Prop) (hT : ∀ pre W, J pre W → Tab W)
    (hY : ∀ pre (s : Sp) W, J pre W → pre.length < 32 → YieldAt Fence.wide 2 Tryd.prog l #[.agg #[.int .i64 s.1, .int .i64 s.2]] W fun e W' => e = .returned (.bool true) ∧ J (pre ++ [s]) W')
    (W : World) (h0 : J [] W) :
    CallsIn Fence.wide 3 Tryd.prog 132 #[.int .u64 x, .func (.yield l) #[] #[]] W fun e W' => (∃ v, e = .returned v) ∧ J (canon (bitsOf x)) W' := by
  refine callsIn_of_wp Tryd.func132 rfl trivial ?_ rfl
  simp only [Tryd.ntmps132, List.size_toArray, List.length_cons, List.length_nil, Nat.reduceAdd, Nat.reduceSub, Array.replicate_succ, Array.replicate_zero, List.push_toArray, List.append_toArray, List.nil_append, List.cons_append]
  gi_wp2
  gi_loopw [4, 5] (fun a t wr => ∃ (m : Nat) (pre : List Sp), m < 64 ∧ a = .int .i64 m ∧ canon (bitsOf x) = pre ++ rest (bitsOf x) m ∧ J pre wr) (fun a _ _ => 64 - (intOf a).toNat)
  case atStart => exact ⟨0, [], by omega, rfl, rfl, h0⟩
  case round =>
    obtain ⟨m, pre, hm, rfl, hc, hJ⟩ := hrel
    have HC := Lib.hid hc
    clear hc
    by_cases hz : x / 2 ^ m = 0
    · have ht : (((x : Int) / 2 ^ m) != 0) = false := by rw [castDiv, hz]; rfl
      gi_wp2
      go_end0
      refine ⟨⟨_, rfl⟩, ?_⟩
      rw [HC.out, rest_none _ _ (by omega) hz, List.append_nil]; exact hJ
    · have ht : (((x : Int) / 2 ^ m) != 0) = true := by rw [castDiv, bne_iff_ne]; omega
      have hT' := Lib.hid (hT _ _ hJ)
      obtain ⟨r1, r2, r3, r4, r5, r6⟩ := rest_some x m hx (by omega) hz
      have E1 := Lib.hid (castDiv x m)
      obtain ⟨c, hc⟩ : ∃ c, Lib.ctz 64 (x / 2 ^ m) = c := ⟨_, rfl⟩
      have ea : begOf x m = m + c := by unfold begOf; rw [hc]
      rw [ea] at r1 r2 r3 r5 r6
      obtain ⟨d, hd⟩ : ∃ d, Lib.ctz 64 (notW (x / 2 ^ (m + c))) = d := ⟨_, rfl⟩
      have et : tillOf x (m + c) = m + c + d := by unfold tillOf; rw [hd]
      rw [et] at r2 r3 r6
      rw [hc] at r4
      rw [hd] at r5
      have HC1 := Lib.hid hc
      have HD := Lib.hid hd
      have R6 := Lib.hid r6
      clear hc hd r6 ea et hz
      gi_wp2_with fail
      refine ⟨trivial, ?_⟩
      refine (callsIn_wide.2 (tz_int (x / 2 ^ m) c _ E1.out HC1.out (div_lt _ _ hx) _ hT'.out)).mono ?_
      rintro e w' ⟨rfl, rfl⟩
      gi_wp2_with fail
      refine ⟨trivial, ?_⟩
      refine (callsIn_wide.2 (tz_int (notW (x / 2 ^ (m + c))) d _ (by rw [castDiv, xor_top _ (div_lt _ _ hx)]) HD.out (notW_lt _) _ hT'.out)).mono ?_
      rintro e w' ⟨rfl, rfl⟩
      have hlen : pre.length < 32 := by
        have := canon_le (bitsOf x)
        rw [HC.out, R6.out] at this
        simp at this; omega
      obtain ⟨fn, tmps, assign, body, hy, hR⟩ := hY pre ((m : Int) + c, (m : Int) + c + d) wr hJ hlen
      dsimp only at hy
      by_cases h64 : m + c + d = 64
      · have h6 : ((m : Int) + c + d == 64) = true := by rw [beq_iff_eq]; omega
        gi_wp2
        refine hR.mono ?_
        rintro e W3 ⟨rfl, hJ3⟩
        gi_wp2
        refine bodyPost_ret (results_none rfl _ _ _) rfl ?_
        refine ⟨⟨_, rfl⟩, ?_⟩
        rw [HC.out, R6.out, h64, rest_nil _ 64 (by omega) (by omega)]
        have e1 : ((m + c : Nat) : Int) = (m : Int) + c := by omega
        have e2 : ((64 : Nat) : Int) = (m : Int) + c + d := by omega
        rw [e1, e2]; exact hJ3
      · have h6 : ((m : Int) + c + d == 64) = false := by rw [beq_eq_false_iff_ne]; omega
        gi_wp2
        refine hR.mono ?_
        rintro e W3 ⟨rfl, hJ3⟩
        gi_wp2
        go_roundw
        case rel =>
          refine ⟨m + c + d, pre ++ [((m : Int) + c, (m : Int) + c + d)], by omega, by go_num, ?_, hJ3⟩
          rw [HC.out, R6.out, List.append_assoc]
          have e1 : ((m + c : Nat) : Int) = (m : Int) + c := by omega
          have e2 : ((m + c + d : Nat) : Int) = (m : Int) + c + d := by omega
          rw [e1, e2]; rfl
        case measure => simp [intOf]; omega
/-- What a round of the loop owes: it falls off its end, having kept what the loop laid, and its own invariant holds. -/
def roundOwes {α : Type} (B : Nat) (I : List α → World → Prop) (xs : List α) (W : World) : Exit → Act → World → Prop
  | .normal, _, W' => KeepsFrom B W W' ∧ I xs W'
  | _, _, _ => False
/-- A range over a function value whose leading arguments are bound (a method value), the body never leaving early; the loop's variable may be boxed anew in each round (Ax). -/
theorem wp_range {α : Type} {P : Program} {g : Operand} {ps : Array Tmp} {assign body : Code} {Q : Exit → Act → World → Prop} {a : Act} {w : World} {f : Nat} {fs lb : Array Value}
    (hg : a.eval g = .func (.func f) fs lb) (eg : ∀ args w, (callFunc f args).run P w = .ok (.enter f args) w) {encs : α → Array Value} (hps : ∀ x, (encs x).size = ps.size)
    (xs : List α) (N : Nat) (I : List α → World → Prop) (hI : OwnFrom w.heap.size I) (h0 : I [] w) (Ax : α → Act → World → Prop) (hAx : OwnFrom w.heap.size (fun (p : α × Act) W => Ax p.1 p.2 W))
    (hassign : ∀ (l : Nat) (pre : List α) (x : α) (W : World) (K : Act → World → Prop), I pre W → (∀ a' W', KeepsFrom w.heap.size W W' → I pre W' → Ax x a' W' → K a' W') →
      assign.wpIn (Fence.wide.inRound l) 2 P (Exit.then K (fun _ _ _ => False)) { tmps := (ps.zip (encs x)).foldl (fun t (p, v) => t.setIfInBounds p v) a.tmps, defers := [] } W)
    (hbody : ∀ (l : Nat) (pre : List α) (x : α) (a' : Act) (W : World), I pre W → Ax x a' W → pre.length < N → body.wpIn (Fence.wide.inRound l) 2 P (roundOwes w.heap.size I (pre ++ [x]) W) a' W)
    (hseq : ∀ (J : List α → World → Prop) (W : World), (∀ pre W, J pre W → I pre W) →
      (∀ pre x W, J pre W → pre.length < N → YieldAt Fence.wide 2 P (w.heap.size + 1) (encs x) W fun e W' => e = .returned (.bool true) ∧ J (pre ++ [x]) W') → J [] W →
      CallsIn Fence.wide 3 P f (fs ++ #[.func (.yield (w.heap.size + 1)) #[] #[]] ++ lb) W fun e W' => (∃ v, e = .returned v) ∧ J xs W')
    (hdone : ∀ (W : World), I xs W → W.heap[w.heap.size]? = some (.deferred (some [])) → Q .normal { a with defers := { target := .collected w.heap.size, args := #[] } :: a.defers } W) :
    (Code.rangeFunc g ps assign body).wpIn Fence.wide 4 P Q a w := by
  refine wpIn_rangeFunc (fun fn hfn => ?_)
  let mk : LoopState → Loop := fun st => { state := st, pending := none, fn, tmps := a.tmps, params := ps, assign, body, defers := w.heap.size }
  let rd : Nat := w.heap.size + 1
  let W1 : World := (w.alloc (.deferred (some []))).alloc (.loop (mk .ready))
  have hloop : W1.heap[rd]? = some (.loop (mk .ready)) := by
    have := World.alloc_heap_new (w.alloc (.deferred (some []))) (.loop (mk .ready)); rwa [World.size_alloc] at this
  have hdef : W1.heap[w.heap.size]? = some (.deferred (some [])) := (Below.heap_alloc _ _ _ (by simp)).trans (World.alloc_heap_new w _)
  have hI1 : I [] W1 := hI.alloc _ (hI.alloc _ h0)
  refine ⟨rd, [{ target := .collected w.heap.size, args := #[] }], W1, { target := .fn (.func f) lb, args := fs ++ #[.func (.yield rd) #[] #[]] }, W1, f, fs ++ #[.func (.yield rd) #[] #[]] ++ lb, W1,
    run_enterLoop_outer _ _ _ _ _, ?_, fun _ _ => trivial, ?_, fun h => ?_, ?_⟩
  · simp only [resolve, hg]; simp [go_sem]
  · simp [invoke, go_sem, eg]
  · omega
  · let J : List α → World → Prop := fun pre W => I pre W ∧ W.heap[rd]? = some (.loop (mk .ready)) ∧ W.heap[w.heap.size]? = some (.deferred (some []))
    refine (hseq J W1 (fun _ _ h => h.1) ?_ ⟨hI1, hloop, hdef⟩).mono ?_
    · rintro pre x W0 ⟨hi0, hl0, hd0⟩ hlen
      have hy := run_yield (P := P) (args := encs x) hl0 (hps x)
      refine ⟨fn, _, assign, body, hy, roundIn_of_wpIn hfn (hassign _ pre x W0 _ hi0 (fun a' W hk0 hi hax => ?_))⟩
      have hl : W.heap[rd]? = some (.loop (mk .ready)) := hk0.same _ _ (by omega) hl0 rfl
      have hd : W.heap[w.heap.size]? = some (.deferred (some [])) := hk0.same _ _ (Nat.le_refl _) hd0 rfl
      have hlt : rd < W.heap.size := (Array.getElem?_eq_some_iff.1 hl).1
      refine ⟨_, run_beginRound hl rfl, ?_⟩
      have b1 : (W.putObj rd (.loop { mk .ready with state := .busy })).heap[rd]? = some (.loop { mk .ready with state := .busy }) := World.putObj_heap_same hlt
      have b2 : (W.putObj rd (.loop { mk .ready with state := .busy })).heap[w.heap.size]? = some (.deferred (some [])) := (World.putObj_heap_other (by omega)).trans hd
      refine wpIn_mono (hbody _ pre x _ _ (hI.putObj _ hi (by omega) hl rfl) (hAx.putObj (s := (x, a')) _ hax (by omega) hl rfl) hlen) ?_
      rintro e a3 W3 hp
      cases e with
      | normal =>
        obtain ⟨hk3, hi3⟩ := hp
        have c1 := hk3.same _ _ (by omega) b1 rfl
        have c2 := hk3.same _ _ (Nat.le_refl _) b2 rfl
        exact ⟨_, _, run_endRound (P := P) none c1, rfl, hI.putObj _ hi3 (by omega) c1 rfl, World.putObj_heap_same (Array.getElem?_eq_some_iff.1 c1).1, (World.putObj_heap_other (by omega)).trans c2⟩
      | _ => exact hp.elim
    · rintro e W2 ⟨⟨v, rfl⟩, hi, hl, hd⟩
      exact ⟨none, _, run_endLoop (P := P) hl (by simp [mk]), hdone _ (hI.putObj _ hi (by omega) hl rfl) ((World.putObj_heap_other (by omega)).trans hd)⟩
end Go.Proofs.YtdibijhaiaiifaaDoor
/- The walk of list: a word's canonical list of spans. -/
namespace Go.Proofs.YtdibijhaiaiifaaDoor
open Go.RowKit Go.Shelf
attribute [local go_sem] Oper.semAt_some
def flat (l : List Sp) : List Value := l.flatMap fun s => [.int .i64 s.1, .int .i64 s.2]
theorem flat_length (l : List Sp) : (flat l).length = l.length * 2 := by
  induction l with
  | nil => rfl
  | cons s l ih => simp only [flat, List.flatMap_cons, List.length_append, List.length_cons, List.length_nil] at *; omega
theorem flat_append (a b : List Sp) : flat (a ++ b) = flat a ++ flat b := by simp [flat]
theorem flat_get (l : List Sp) : ∀ i, i < l.length → (flat l)[i * 2]? = some (.int .i64 (l.getD i (0, 0)).1) ∧ (flat l)[i * 2 + 1]? = some (.int .i64 (l.getD i (0, 0)).2) := by
  induction l with
  | nil => intro i h; simp at h
  | cons s l ih =>
    intro i hi
    have e : flat (s :: l) = .int .i64 s.1 :: .int .i64 s.2 :: flat l := rfl
    rw [e]
    cases i with
    | zero => simp
    | succ i =>
      have := ih i (by simpa using hi)
      rw [show (i + 1) * 2 = i * 2 + 2 from by omega]
      simpa using this
theorem IsSpans.of_owns {W : World} {base : Nat} {v : Value} {l : List Sp} (h : W.ownsRow base 86 2 v l.length (flat l)) (hl : l.length ≤ 9223372036854775807) : IsSpans W v l := by
  obtain ⟨_, h2⟩ := h
  rcases h2 with ⟨rfl, h0⟩ | ⟨g, cap, cur, rfl, _, hg, hn, hcm, hsz, htake⟩
  · have : l = [] := List.eq_nil_of_length_eq_zero h0
    subst this
    exact ⟨none, 0, rfl, .inl rfl, by simp, by simp, by simp⟩
  · refine ⟨_, cap, rfl, .inr ⟨g, 0, rfl, fun i hi => ?_⟩, hl, hn, by unfold maxLen at hcm; omega⟩
    obtain ⟨f1, f2⟩ := flat_get l i hi
    have key : ∀ j u, j < l.length * 2 → (flat l)[j]? = some u → W.cell? ⟨g, 0 + j, none⟩ = some u := by
      intro j u hj hu
      rw [← htake, List.getElem?_take, if_pos hj] at hu
      rw [Nat.zero_add]
      unfold World.cell?
      rw [hg]
      simpa using hu
    exact ⟨key _ _ (by omega) f1, key _ _ (by omega) f2⟩
theorem Tryd.info86 : (Tryd.prog.info? 86).map (fun i => (i.zero, i.size, i.bytes)) = some (some (.agg #[.int .i64 0, .int .i64 0]), 2, 16) := by kernel_rfl
theorem cells_two_new (w : World) (x y : Value) (t : TypeId) : ∀ j u, [x, y][j]? = some u → (w.alloc (.cells #[x, y] t)).cell? ((⟨w.heap.size, 0, none⟩ : Addr).add j) = some u := by
  intro j u hj
  have e : (w.alloc (.cells #[x, y] t)).heap[w.heap.size]? = some (.cells #[x, y] t) := World.alloc_heap_new w _
  match j, hj with
  | 0, hj => simp at hj; subst hj; exact cell_of_row _ w.heap.size 0 #[x, y] t (0, 0) e
  | 1, hj => simp at hj; subst hj; exact cell_of_row _ w.heap.size 1 #[x, y] t (0, 0) e
set_option maxRecDepth 100000 in
set_option maxHeartbeats 2000000 in
theorem list_in (x : Nat) (hx : x < 18446744073709551616) (w : World) (hT : Tab w) :
    CallsIn Fence.wide 4 Tryd.prog 98 #[.int .u64 x] w fun e w' => ∃ v, e = .returned v ∧ IsSpansF w' w.heap.size v (canon (bitsOf x)) ∧ Below w.heap.size w w' := by
  obtain ⟨i0, hi, hz0, hz1, hz2⟩ := info_parts Tryd.info86
  refine callsIn_of_wp_marks Tryd.func98 rfl trivial ?_ rfl
  simp only [Tryd.ntmps98, List.size_toArray, List.length_cons, List.length_nil, Nat.reduceAdd, Nat.reduceSub, Array.replicate_succ, Array.replicate_zero, List.push_toArray, List.append_toArray, List.nil_append, List.cons_append]
  gi_wp2
  have bO := Boxed.new w 26 (.slice none 0 0)
  have hB0 : Below w.heap.size w (w.alloc (.cells #[.slice none 0 0] 26)) := (Below.refl _ w).alloc (Nat.le_refl _) _
  refine wp_range (f := 132) (fs := #[.int .u64 x]) (lb := #[]) rfl (enters_of Tryd.func132 (by kernel_rfl) rfl) (encs := fun s : Sp => #[.agg #[.int .i64 s.1, .int .i64 s.2]]) (fun _ => rfl) (canon (bitsOf x)) 32
    (fun pre W => (∃ v, Boxed W w.heap.size 26 v ∧ W.ownsRow w.heap.size 86 2 v pre.length (flat pre) ∧ True) ∧ Below w.heap.size w W)
    (OwnFrom.and (Own.from (holdsRow_own w.heap.size w.heap.size 26 86 2 (fun pre => pre.length) flat (fun _ _ => True)) _) (ownFrom_below (Nat.le_refl _) (by simp)))
    ⟨⟨_, bO, World.ownsRow_nil _ _ _ _, trivial⟩, hB0⟩
    (fun s a' W => ∃ b, w.heap.size < b ∧ W.cell? ⟨b, 0, none⟩ = some (.int .i64 s.1) ∧ W.cell? ⟨b, 1, none⟩ = some (.int .i64 s.2) ∧
      a' = { tmps := #[.int .u64 x, undef, .slice none 0 0, .pointer (some ⟨w.heap.size, 0, none⟩), .pointer (some ⟨b, 0, none⟩), .int .u64 x, .func (.func 132) #[.int .u64 x] #[], .agg #[.int .i64 s.1, .int .i64 s.2], undef, undef, undef, undef, undef], defers := [] })
    (Own.from (fun s A B row hs hg hr => by obtain ⟨b, h1, h2, h3, h4⟩ := hs; exact ⟨b, h1, cell_kept h2 hg hr, cell_kept h3 hg hr, h4⟩) _) ?assign ?body ?seq ?done
  case assign =>
    rintro l pre ⟨p, q⟩ W K ⟨⟨v, hv, hrow, -⟩, hB⟩ hK
    gi_wp2
    have e : (W.alloc (.cells #[.int .i64 p, .int .i64 q] 86)).heap[W.heap.size]? = some (.cells #[.int .i64 p, .int .i64 q] 86) := World.alloc_heap_new W _
    exact hK _ _ ((KeepsOthers.alloc _ _).from _) ⟨⟨v, hv.alloc _, hrow.alloc _, trivial⟩, hB.alloc hB.size _⟩ ⟨W.heap.size, hv.lt, cell_of_row _ W.heap.size 0 _ 86 (0, 0) e, cell_of_row _ W.heap.size 1 _ 86 (0, 0) e, rfl⟩
  case body =>
    rintro l pre ⟨p, q⟩ a' W ⟨⟨v, hv, hrow, -⟩, hB⟩ ⟨b, hb, c1, c2, rfl⟩ hlt
    have hc := hv.cell
    dsimp only at c1 c2
    gi_wp2_with (gi_at_builtin; refine wpListIn_append_own _ rfl _ _ 26 rfl w.heap.size 86 i0 (.agg #[.int .i64 0, .int .i64 0]) 2 16 Tryd.underlying26 hi hz0 hz1 hz2 rfl (by decide) _ _ _ rfl (hrow.alloc _) ⟨W.heap.size, 0, none⟩ 1 1 [.int .i64 p, .int .i64 q] rfl rfl (cells_two_new _ _ _ _) (by simp [Value.oneCell']) (by unfold maxLen; omega) (by omega) (by have := hB.size; simp; omega) ?_; intro v' w1 hown' hgrow _; obtain ⟨g', cap', rfl⟩ := ownsRow_succ hown'; obtain ⟨hv1, hv2, hr2, hk2, hb2⟩ := hv.appended (by decide) hrow hB.size (Nat.le_refl _) hown' hgrow; have hc1 := hv1.cell; have hf1 := hv1.frozen)
    exact ⟨hk2.from _, ⟨_, hv2, by simpa [flat_append, flat] using hr2⟩, hB.trans hb2⟩
  case seq =>
    intro J W hJI hY h0
    exact spans_in _ x hx J (fun pre W h => hT.keep (hJI pre W h).2) hY W h0
  case done =>
    rintro W ⟨⟨v, hv, hrow, -⟩, hB⟩ hK
    have hc := hv.cell
    have hlen := canon_le (bitsOf x)
    gi_wp2
    refine ⟨by simp, .inl ⟨_, _, rfl, run_takeDeferred hK, ?_⟩⟩
    exact ⟨_, results_tmp rfl _ _ _, v, rfl, ⟨.of_owns (ownsRow_putObj hrow _ hK rfl) (by omega), fun b hb => (hrow.lt b hb).1⟩, hB.trans (belowK_b (w := w) (Nat.le_refl _) W _ _ _ (by simp) hK rfl rfl)⟩
theorem list_any (x : Nat) (hx : x < 18446744073709551616) (w : World) (hT : Tab w) :
    Calls Tryd.prog 98 #[.int .u64 x] w fun e w' => ∃ v, e = .returned v ∧ IsSpansF w' w.heap.size v (canon (bitsOf x)) ∧ Below w.heap.size w w' := callsIn_wide.1 (list_in x hx w hT)
end Go.Proofs.YtdibijhaiaiifaaDoor
/- The walks of package interval's exported functions that return lists, numbers and Has. -/
namespace Go.Proofs.YtdibijhaiaiifaaDoor
open Go.RowKit
def andTo (x y : Nat) : Nat → Nat
  | 0 => top64
  | 1 => top64 &&& x
  | _ => (top64 &&& x) &&& y
theorem top_and (x : Nat) (hx : x < 18446744073709551616) : top64 &&& x = x := by
  rw [Nat.and_comm, show top64 = 2 ^ 64 - 1 from rfl, Nat.and_two_pow_sub_one_eq_mod]
  exact Nat.mod_eq_of_lt hx
theorem andTo_two (x y : Nat) (hx : x < 18446744073709551616) : andTo x y 2 = x &&& y := by
  show (top64 &&& x) &&& y = _
  rw [top_and x hx]
theorem andTo_one (x y : Nat) : andTo x y 0 &&& x = andTo x y 1 := by simp only [andTo]
theorem andTo_two' (x y : Nat) : andTo x y 1 &&& y = andTo x y 2 := by simp only [andTo]
theorem andTo_lt (x y : Nat) (hx : x < 18446744073709551616) : andTo x y 0 < 18446744073709551616 ∧ andTo x y 1 < 18446744073709551616 := by
  refine ⟨?_, ?_⟩
  · show top64 < _
    unfold top64; omega
  · show top64 &&& x < _
    exact and_lt hx
theorem andTo_zero (x y : Nat) : (18446744073709551615 : Int) = ((andTo x y 0 : Nat) : Int) := by
  show _ = ((top64 : Nat) : Int)
  unfold top64; omega
theorem all_any (x y b : Nat) (hx : x < 18446744073709551616) (hy : y < 18446744073709551616) (w : World) (c0 : w.cell? ⟨b, 0, none⟩ = some (.int .u64 x)) (c1 : w.cell? ⟨b, 1, none⟩ = some (.int .u64 y)) :
    Calls Tryd.prog 97 #[.slice (some ⟨b, 0, none⟩) 2 2] w fun e w' => e = .returned (.int .u64 (x &&& y : Nat)) ∧ w = w' := by
  have E0 := Lib.hid (andTo_zero x y)
  have E1 := Lib.hid (show bits .and .u64 ((andTo x y 0 : Nat) : Int) (x : Int) = ((andTo x y 1 : Nat) : Int) from by rw [u64_and_nat _ _ (andTo_lt x y hx).1 hx, andTo_one])
  have E2 := Lib.hid (show bits .and .u64 ((andTo x y 1 : Nat) : Int) (y : Int) = ((andTo x y 2 : Nat) : Int) from by rw [u64_and_nat _ _ (andTo_lt x y hx).2 hy, andTo_two'])
  have E3 := Lib.hid (andTo_two x y hx)
  go_enter Tryd.func97, Tryd.ntmps97
  go_wp2
  go_loop [3, 5, 8] (fun t _ i => ∃ k : Nat, k ≤ 2 ∧ i = .int .i64 k ∧ t = .int .u64 (andTo x y k)) (fun _ _ i => 2 - (intOf i).toNat)
  case atStart => exact ⟨0, by omega, rfl, congrArg (Value.int .u64) E0.out⟩
  case round =>
    obtain ⟨k, hk, rfl, rfl⟩ := hrel
    rcases (show k = 0 ∨ k = 1 ∨ k = 2 from by omega) with rfl | rfl | rfl
    · go_wp2
      go_round
      case rel => exact ⟨1, by omega, rfl, congrArg (Value.int .u64) E1.out⟩
      case measure => simp [intOf]
    · go_wp2
      go_round
      case rel => exact ⟨2, by omega, rfl, congrArg (Value.int .u64) E2.out⟩
      case measure => simp [intOf]
    · go_wp2
      go_ret
      exact ⟨ret_int (by rw [E3.out]), rfl⟩
theorem cell2 (w : World) (x y : Value) (t : TypeId) : (w.alloc (.cells #[x, y] t)).cell? ⟨w.heap.size, 0, none⟩ = some x ∧ (w.alloc (.cells #[x, y] t)).cell? ⟨w.heap.size, 1, none⟩ = some y := by
  have e : (w.alloc (.cells #[x, y] t)).heap[w.heap.size]? = some (.cells #[x, y] t) := World.alloc_heap_new w _
  exact ⟨cell_of_row _ w.heap.size 0 #[x, y] t (0, 0) e, cell_of_row _ w.heap.size 1 #[x, y] t (0, 0) e⟩
theorem list_int (z : Int) (x : Nat) (h : z = x) (hx : x < 18446744073709551616) (S : Nat → Bool) (hS : ∀ k, k < 64 → x.testBit k = S k) (w : World) (hT : Tab w) :
    Calls Tryd.prog 98 #[.int .u64 z] w fun e w' => ∃ v, e = .returned v ∧ IsSpansF w' w.heap.size v (canon S) ∧ Below w.heap.size w w' := by
  subst h
  rw [← canon_ext (S := bitsOf x) hS]
  exact list_any x hx w hT
theorem Of_any (v : Value) (l : List Sp) (w : World) (hT : Tab w) (h : IsSpans w v l) :
    Calls Tryd.prog 78 #[v] w fun e w' => ∃ u, e = .returned u ∧ IsSpansF w' w.heap.size u (canon (setOf l)) ∧ Below w.heap.size w w' := by
  go_enter Tryd.func78, Tryd.ntmps78
  go_wp2_with fail
  refine (of_any v l _ h).mono ?_
  rintro e w1 ⟨rfl, hb1⟩
  go_wp2_with fail
  refine (list_int _ _ rfl (ofW_lt l) (setOf l) (ofW_bit l) _ (hT.keep hb1)).mono ?_
  rintro e w2 ⟨u, rfl, hu, hb2⟩
  go_wp2
  go_ret
  exact ⟨u, rfl, ⟨hu.1, hu.2.mono (hb1.size)⟩, below_trans hb1 hb2⟩
theorem Union_any (va vb : Value) (a b : List Sp) (w : World) (hT : Tab w) (ha : IsSpans w va a) (hb : IsSpans w vb b) :
    Calls Tryd.prog 49 #[va, vb] w fun e w' => ∃ u, e = .returned u ∧ IsSpansF w' w.heap.size u (canon fun k => setOf a k || setOf b k) ∧ Below w.heap.size w w' := by
  go_enter Tryd.func49, Tryd.ntmps49
  go_wp2_with fail
  refine (of_any va a _ ha).mono ?_
  rintro e w1 ⟨rfl, hb1⟩
  go_wp2_with fail
  refine (of_any vb b _ (hb.keep hb1)).mono ?_
  rintro e w2 ⟨rfl, hb2⟩
  go_wp2_with fail
  refine (list_int _ _ (u64_or_nat _ _ (ofW_lt a) (ofW_lt b)) (or_lt (ofW_lt a) (ofW_lt b)) (fun k => setOf a k || setOf b k) (fun k hk => by rw [Nat.testBit_or, ofW_bit a k hk, ofW_bit b k hk]) _ ((hT.keep hb1).keep hb2)).mono ?_
  rintro e w3 ⟨u, rfl, hu, hb3⟩
  go_wp2
  go_ret
  exact ⟨u, rfl, ⟨hu.1, hu.2.mono ((below_trans hb1 hb2).size)⟩, below_trans (below_trans hb1 hb2) hb3⟩
theorem Meet_any (va vb : Value) (a b : List Sp) (w : World) (hT : Tab w) (ha : IsSpans w va a) (hb : IsSpans w vb b) :
    Calls Tryd.prog 84 #[va, vb] w fun e w' => ∃ u, e = .returned u ∧ IsSpansF w' w.heap.size u (canon fun k => setOf a k && setOf b k) ∧ Below w.heap.size w w' := by
  go_enter Tryd.func84, Tryd.ntmps84
  go_wp2_with fail
  refine (of_any va a _ ha).mono ?_
  rintro e w1 ⟨rfl, hb1⟩
  go_wp2_with fail
  refine (of_any vb b _ (hb.keep hb1)).mono ?_
  rintro e w2 ⟨rfl, hb2⟩
  go_wp2_with fail
  obtain ⟨c0, c1⟩ := cell2 w2 (.int .u64 (ofW a)) (.int .u64 (ofW b)) 101
  refine (all_any _ _ _ (ofW_lt a) (ofW_lt b) _ c0 c1).mono ?_
  rintro e w3 ⟨rfl, rfl⟩
  go_wp2_with fail
  have hb3 : Below w2.heap.size w2 (w2.alloc (.cells #[.int .u64 (ofW a), .int .u64 (ofW b)] 101)) := (Below.refl _ _).alloc (Nat.le_refl _) _
  refine (list_int _ _ rfl (and_lt (ofW_lt b)) (fun k => setOf a k && setOf b k) (fun k hk => by rw [Nat.testBit_and, ofW_bit a k hk, ofW_bit b k hk]) _ (((hT.keep hb1).keep hb2).keep hb3)).mono ?_
  rintro e w4 ⟨u, rfl, hu, hb4⟩
  go_wp2
  go_ret
  exact ⟨u, rfl, ⟨hu.1, hu.2.mono ((below_trans (below_trans hb1 hb2) hb3).size)⟩, below_trans (below_trans (below_trans hb1 hb2) hb3) hb4⟩
theorem Minus_any (va vb : Value) (a b : List Sp) (w : World) (hT : Tab w) (ha : IsSpans w va a) (hb : IsSpans w vb b) :
    Calls Tryd.prog 48 #[va, vb] w fun e w' => ∃ u, e = .returned u ∧ IsSpansF w' w.heap.size u (canon fun k => setOf a k && !setOf b k) ∧ Below w.heap.size w w' := by
  go_enter Tryd.func48, Tryd.ntmps48
  go_wp2_with fail
  refine (of_any va a _ ha).mono ?_
  rintro e w1 ⟨rfl, hb1⟩
  go_wp2_with fail
  refine (of_any vb b _ (hb.keep hb1)).mono ?_
  rintro e w2 ⟨rfl, hb2⟩
  go_wp2_with fail
  rw [xor_top _ (ofW_lt b)]
  obtain ⟨c0, c1⟩ := cell2 w2 (.int .u64 (ofW a)) (.int .u64 (notW (ofW b) : Nat)) 101
  refine (all_any _ _ _ (ofW_lt a) (notW_lt _) _ c0 c1).mono ?_
  rintro e w3 ⟨rfl, rfl⟩
  go_wp2_with fail
  have hb3 : Below w2.heap.size w2 (w2.alloc (.cells #[.int .u64 (ofW a), .int .u64 (notW (ofW b) : Nat)] 101)) := (Below.refl _ _).alloc (Nat.le_refl _) _
  refine (list_int _ _ rfl (and_lt (notW_lt _)) (fun k => setOf a k && !setOf b k) (fun k hk => by rw [Nat.testBit_and, notW_bit _ _ (ofW_lt b) hk, ofW_bit a k hk, ofW_bit b k hk]) _ (((hT.keep hb1).keep hb2).keep hb3)).mono ?_
  rintro e w4 ⟨u, rfl, hu, hb4⟩
  go_wp2
  go_ret
  exact ⟨u, rfl, ⟨hu.1, hu.2.mono ((below_trans (below_trans hb1 hb2) hb3).size)⟩, below_trans (below_trans (below_trans hb1 hb2) hb3) hb4⟩
theorem bit_test (x n : Nat) (hx : x < 18446744073709551616) : (bits .and .u64 ((x : Int) / 2 ^ n) 1 == 1) = x.testBit n := by
  rw [castDiv, show (1 : Int) = ((1 : Nat) : Int) from rfl, u64_and_nat _ _ (div_lt x n hx) (by omega), Nat.testBit_eq_decide_div_mod_eq, show (1 : Nat) = 2 ^ 1 - 1 from rfl, Nat.and_two_pow_sub_one_eq_mod]
  generalize x / 2 ^ n = y
  rw [Bool.eq_iff_iff]; simp; omega
/-- Whether a moment is in a list's set. -/
def inSet (l : List Sp) (k : Int) : Bool := decide (0 ≤ k) && decide (k < 64) && has l k
theorem Has_any (va : Value) (a : List Sp) (k : Int) (w : World) (ha : IsSpans w va a) :
    Calls Tryd.prog 43 #[va, .int .i64 k] w fun e w' => e = .returned (.bool (inSet a k)) ∧ Below w.heap.size w w' := by
  by_cases h0 : 0 ≤ k
  · by_cases h1 : k < 64
    · obtain ⟨n, rfl⟩ := Int.eq_ofNat_of_zero_le h0
      have E := Lib.hid (show inSet a (n : Int) = (ofW a).testBit n from by rw [ofW_bit a n (by omega)]; simp [inSet, setOf]; omega)
      go_enter Tryd.func43, Tryd.ntmps43
      go_wp2_with (first | (go_at_call 95; refine (of_any va a _ ha).mono ?_; rintro e w1 ⟨rfl, hb1⟩))
      go_ret
      exact ⟨by rw [E.out, ← bit_test _ _ (ofW_lt a)]; rfl, hb1⟩
    · have E := Lib.hid (show inSet a k = false from by simp [inSet]; omega)
      go_enter Tryd.func43, Tryd.ntmps43
      go_wp2
      go_ret
      exact ⟨by rw [E.out]; rfl, Below.refl _ _⟩
  · have E := Lib.hid (show inSet a k = false from by simp [inSet]; omega)
    go_enter Tryd.func43, Tryd.ntmps43
    go_wp2
    go_ret
    exact ⟨by rw [E.out]; rfl, Below.refl _ _⟩
end Go.Proofs.YtdibijhaiaiifaaDoor
/- The walks of the two comparisons of lists. -/
namespace Go.Proofs.YtdibijhaiaiifaaDoor
open Go.RowKit
theorem list_eq_of {a b : List Sp} (h : a.length = b.length) (he : ∀ i, i < a.length → a.getD i (0, 0) = b.getD i (0, 0)) : a = b := by
  apply List.ext_getElem h
  intro i h1 h2
  have := he i h1
  simpa [List.getD_eq_getElem?_getD, List.getElem?_eq_getElem h1, List.getElem?_eq_getElem h2] using this
theorem run_neq_sp (p q p' q' : Int) (w : World) : (binOp .neq 86 (.agg #[.int .i64 p, .int .i64 q]) (.agg #[.int .i64 p', .int .i64 q'])).run Tryd.prog w = .ok (.bool (!(p == p' && q == q'))) w := by
  have hp : Tryd.prog.stoodInHeld 86 = false := by kernel_rfl
  have hf : Tryd.prog.underlying 86 = some (.struct (Tryd.prog.fieldsOf 86)) := by kernel_rfl
  rw [run_neq_struct, run_equalIn_agg w 9999 86 _ _ hf hp]
  simp [go_sem]
  by_cases h : p = p' <;> by_cases h' : q = q' <;> simp [h, h']
theorem run_guard_sp (x y : Operand) (u v : Array Value) (w : World) : (eqGuard .neq 86 x y (.agg u) (.agg v)).run Tryd.prog w = .ok () w := run_eqGuard_agg w .neq 86 x y u v (by kernel_rfl)
theorem neq_yes (p q p' q' : Int) (h : ¬ (p = p' ∧ q = q')) (w : World) : (binOp .neq 86 (.agg #[.int .i64 p, .int .i64 q]) (.agg #[.int .i64 p', .int .i64 q'])).run Tryd.prog w = .ok (.bool true) w := by
  rw [run_neq_sp]; congr 2; simp; omega
theorem neq_no (p q : Int) (w : World) : (binOp .neq 86 (.agg #[.int .i64 p, .int .i64 q]) (.agg #[.int .i64 p, .int .i64 q])).run Tryd.prog w = .ok (.bool false) w := by
  rw [run_neq_sp]; simp
set_option maxHeartbeats 1000000 in
theorem Equal_any (va vb : Value) (a b : List Sp) (w : World) (ha : IsSpans w va a) (hb : IsSpans w vb b) :
    Calls Tryd.prog 119 #[va, vb] w fun e w' => e = .returned (.bool (decide (a = b))) ∧ Below w.heap.size w w' := by
  obtain ⟨aa, ca, rfl, hsa, hma⟩ := ha
  obtain ⟨ab, cb, rfl, hsb, hmb⟩ := hb
  have hg := run_guard_sp
  by_cases hn : a.length = b.length
  · have hne : ((a.length : Int) != (b.length : Int)) = false := by rw [bne_eq_false_iff_eq]; omega
    have HN := Lib.hid hn
    clear hn
    go_enter Tryd.func119, Tryd.ntmps119
    go_wp2
    go_loopw [5, 13] (fun _ i wr => ∃ k : Nat, k ≤ a.length ∧ i = .int .i64 k ∧ (∀ i, i < k → a.getD i (0, 0) = b.getD i (0, 0)) ∧ Below w.heap.size w wr) (fun _ i _ => a.length - (intOf i).toNat)
    case atStart => exact ⟨0, Nat.zero_le _, rfl, by omega, Below.refl _ _⟩
    case round =>
      obtain ⟨k, hk, rfl, he, hbel⟩ := hrel
      have HE := Lib.hid he
      clear he
      by_cases hlt : k < a.length
      · have hlt' : k < b.length := by have := HN.out; omega
        obtain ⟨b1, o1, rfl, hc1⟩ := (hsa.keep hbel).at_ hlt
        obtain ⟨b2, o2, rfl, hc2⟩ := (hsb.keep hbel).at_ hlt'
        obtain ⟨c1, c2⟩ := hc1 k hlt
        obtain ⟨c3, c4⟩ := hc2 k hlt'
        clear hc1 hc2
        obtain ⟨s, hs⟩ : ∃ s, a.getD k (0, 0) = s := ⟨_, rfl⟩
        obtain ⟨t, ht⟩ : ∃ t, b.getD k (0, 0) = t := ⟨_, rfl⟩
        rw [hs] at c1 c2
        rw [ht] at c3 c4
        have HS := Lib.hid hs
        have HT := Lib.hid ht
        clear hs ht
        obtain ⟨p, q⟩ := s
        obtain ⟨p', q'⟩ := t
        by_cases hpq : p = p' ∧ q = q'
        · obtain ⟨rfl, rfl⟩ := hpq
          have hr := neq_no p q
          go_wp2
          go_quiet (fail)
          go_wp2
          go_roundw
          case rel =>
            refine ⟨k + 1, by omega, by go_num, fun i hi => ?_, below_drewN hbel _⟩
            rcases (show i < k ∨ i = k from by omega) with h | h
            · exact HE.out i h
            · rw [h, HS.out, HT.out]
          case measure => simp [intOf]; omega
        · have hr := neq_yes p q p' q' hpq
          have hf := Lib.hid (show decide (a = b) = false from by
            rw [decide_eq_false_iff_not]; rintro rfl
            have e := HS.out.symm.trans HT.out
            exact hpq ⟨congrArg Prod.fst e, congrArg Prod.snd e⟩)
          clear hpq
          go_wp2
          go_quiet (fail)
          go_wp2
          go_ret
          exact ⟨by rw [hf.out]; rfl, below_drewN hbel _⟩
      · have hf := Lib.hid (show decide (a = b) = true from by
          rw [decide_eq_true_iff]; exact list_eq_of HN.out (fun i hi => HE.out i (by omega)))
        go_wp2
        go_ret
        exact ⟨by rw [hf.out]; rfl, hbel⟩
  · have hne : ((a.length : Int) != (b.length : Int)) = true := by rw [bne_iff_ne]; omega
    have hf := Lib.hid (show decide (a = b) = false from by rw [decide_eq_false_iff_not]; rintro rfl; exact hn rfl)
    clear hn
    go_enter Tryd.func119, Tryd.ntmps119
    go_wp2
    go_ret
    exact ⟨by rw [hf.out]; rfl, Below.refl _ _⟩
set_option maxHeartbeats 1000000 in
theorem Same_any (va vb : Value) (a b : List Sp) (w : World) (ha : IsSpans w va a) (hb : IsSpans w vb b) :
    Calls Tryd.prog 21 #[va, vb] w fun e w' => e = .returned (.bool (decide (a = b))) ∧ Below w.heap.size w w' := by
  obtain ⟨aa, ca, rfl, hsa, hma⟩ := ha
  obtain ⟨ab, cb, rfl, hsb, hmb⟩ := hb
  have hg := run_guard_sp
  by_cases hn : a.length = b.length
  · have hne : ((a.length : Int) != (b.length : Int)) = false := by rw [bne_eq_false_iff_eq]; omega
    have HN := Lib.hid hn
    clear hn
    go_enter Tryd.func21, Tryd.ntmps21
    go_wp2
    go_loopw [5] (fun i wr => ∃ k : Nat, k ≤ a.length ∧ i = .int .i64 k ∧ (∀ i, i < k → a.getD i (0, 0) = b.getD i (0, 0)) ∧ Below w.heap.size w wr) (fun i _ => a.length - (intOf i).toNat)
    case atStart => exact ⟨0, Nat.zero_le _, rfl, by omega, Below.refl _ _⟩
    case round =>
      obtain ⟨k, hk, rfl, he, hbel⟩ := hrel
      have HE := Lib.hid he
      clear he
      by_cases hlt : k < a.length
      · have hlt' : k < b.length := by have := HN.out; omega
        obtain ⟨b1, o1, rfl, hc1⟩ := (hsa.keep hbel).at_ hlt
        obtain ⟨b2, o2, rfl, hc2⟩ := (hsb.keep hbel).at_ hlt'
        obtain ⟨c1, c2⟩ := hc1 k hlt
        obtain ⟨c3, c4⟩ := hc2 k hlt'
        clear hc1 hc2
        obtain ⟨s, hs⟩ : ∃ s, a.getD k (0, 0) = s := ⟨_, rfl⟩
        obtain ⟨t, ht⟩ : ∃ t, b.getD k (0, 0) = t := ⟨_, rfl⟩
        rw [hs] at c1 c2
        rw [ht] at c3 c4
        have HS := Lib.hid hs
        have HT := Lib.hid ht
        clear hs ht
        obtain ⟨p, q⟩ := s
        obtain ⟨p', q'⟩ := t
        by_cases hpq : p = p' ∧ q = q'
        · obtain ⟨rfl, rfl⟩ := hpq
          have hr := neq_no p q
          go_wp2
          go_quiet (fail)
          go_wp2
          go_roundw
          case rel =>
            refine ⟨k + 1, by omega, by go_num, fun i hi => ?_, below_drewN hbel _⟩
            rcases (show i < k ∨ i = k from by omega) with h | h
            · exact HE.out i h
            · rw [h, HS.out, HT.out]
          case measure => simp [intOf]; omega
        · have hr := neq_yes p q p' q' hpq
          have hf := Lib.hid (show decide (a = b) = false from by
            rw [decide_eq_false_iff_not]; rintro rfl
            have e := HS.out.symm.trans HT.out
            exact hpq ⟨congrArg Prod.fst e, congrArg Prod.snd e⟩)
          clear hpq
          go_wp2
          go_quiet (fail)
          go_wp2
          go_ret
          exact ⟨by rw [hf.out]; rfl, below_drewN hbel _⟩
      · have hf := Lib.hid (show decide (a = b) = true from by
          rw [decide_eq_true_iff]; exact list_eq_of HN.out (fun i hi => HE.out i (by omega)))
        go_wp2
        go_ret
        exact ⟨by rw [hf.out]; rfl, hbel⟩
  · have hne : ((a.length : Int) != (b.length : Int)) = true := by rw [bne_iff_ne]; omega
    have hf := Lib.hid (show decide (a = b) = false from by rw [decide_eq_false_iff_not]; rintro rfl; exact hn rfl)
    clear hn
    go_enter Tryd.func21, Tryd.ntmps21
    go_wp2
    go_ret
    exact ⟨by rw [hf.out]; rfl, Below.refl _ _⟩
end Go.Proofs.YtdibijhaiaiifaaDoor
/- The walks of the reference: one bit for each moment. -/
namespace Go.Proofs.YtdibijhaiaiifaaDoor
open Go.RowKit
/-- Block b holds the 64 bits f. -/
def BoolBlk (w : World) (b : Nat) (f : Nat → Bool) : Prop := ∃ cs : Array Value, w.heap[b]? = some (.cells cs 4 (0, 0)) ∧ cs.size = 64 ∧ ∀ k, k < 64 → cs[k]? = some (.bool (f k))
def zeroBools : Array Value := madeCells #[.bool false] 64
theorem zeroBools_get : zeroBools.size = 64 ∧ ∀ k, k < 64 → zeroBools[k]? = some (.bool false) := by
  refine ⟨by kernel_rfl, fun k hk => ?_⟩
  have e : zeroBools = Array.replicate 64 (.bool false) := by kernel_rfl
  rw [e, Array.getElem?_replicate, if_pos hk]
theorem run_make64 (w : World) : (Instr.makeSlice 122 (.int .i64 64) (.int .i64 64)).run Tryd.prog w = .ok (.slice (some ⟨w.heap.size, 0, none⟩) 64 64) (w.alloc (.cells zeroBools 4)) := by kernel_rfl
section
variable {w w' : World} {b : Nat} {f : Nat → Bool}
theorem BoolBlk.lt (h : BoolBlk w b f) : b < w.heap.size := by obtain ⟨cs, h, _⟩ := h; exact (Array.getElem?_eq_some_iff.1 h).1
theorem BoolBlk.cell (h : BoolBlk w b f) {k : Nat} (hk : k < 64) : w.cell? ⟨b, k, none⟩ = some (.bool (f k)) := by
  obtain ⟨cs, h, hs, hc⟩ := h
  rw [cell_of_row w b k cs 4 (0, 0) h, hc k hk]
theorem BoolBlk.frozen (h : BoolBlk w b f) (k : Nat) : w.frozen? ⟨b, k, none⟩ = false := by
  obtain ⟨cs, h, _⟩ := h
  simp [World.frozen?, h]
theorem BoolBlk.below {B : Nat} (h : BoolBlk w b f) (hb : Below B w w') (hl : b < B) : BoolBlk w' b f := by
  obtain ⟨cs, h, r⟩ := h
  exact ⟨cs, (hb.block b hl).trans h, r⟩
theorem BoolBlk.keep (h : BoolBlk w b f) (hb : Below w.heap.size w w') : BoolBlk w' b f := h.below hb h.lt
theorem BoolBlk.set (h : BoolBlk w b f) {k : Nat} (_ : k < 64) (x : Bool) : BoolBlk (w.setCell ⟨b, k, none⟩ (.bool x)) b (fun j => if j = k then x else f j) := by
  obtain ⟨cs, h, hs, hc⟩ := h
  refine ⟨cs.setIfInBounds k (.bool x), by simp [World.setCell, Array.getElem?_modify, h], by simp [hs], fun j hj => ?_⟩
  rw [Array.getElem?_setIfInBounds]
  by_cases hjk : k = j
  · subst hjk; simp [hs]; omega
  · have hne : ¬ j = k := fun e => hjk e.symm
    simp [hjk, hc j hj, hne]
theorem BoolBlk.new (w : World) : BoolBlk (w.alloc (.cells zeroBools 4)) w.heap.size (fun _ => false) := by
  obtain ⟨h1, h2⟩ := zeroBools_get
  exact ⟨zeroBools, World.alloc_heap_new w _, h1, h2⟩
end
theorem no_span (m : Int) {j : Nat} : (decide (m ≤ (j : Int)) && decide ((j : Int) < m)) = false := by simp
theorem step_span (st : Int) (m j : Nat) (g r : Bool) (h : g = (r || (decide (st ≤ (j : Int)) && decide ((j : Int) < (m : Int))))) (hst : st ≤ (m : Int)) :
    (if j = m then true else g) = (r || (decide (st ≤ (j : Int)) && decide ((j : Int) < (m : Int) + 1))) := by
  subst h
  by_cases hj : j = m
  · subst hj
    have : decide (st ≤ (j : Int)) = true := by simpa using hst
    have h2 : decide ((j : Int) < (j : Int) + 1) = true := by simp; omega
    simp [this, h2]
  · rw [if_neg hj]
    congr 2
    rw [decide_eq_decide]; omega
theorem end_span (st m p q : Int) (j : Nat) (r : Bool) (hj : j < 64) (hst : (st = 0 ∧ p < 0) ∨ (st = p ∧ 0 ≤ p)) (h : (m = st ∧ (q ≤ m ∨ 64 ≤ m)) ∨ (m ≤ q ∧ m ≤ 64 ∧ (q ≤ m ∨ 64 ≤ m))) :
    (r || (decide (st ≤ (j : Int)) && decide ((j : Int) < m))) = (r || (decide (p ≤ (j : Int)) && decide ((j : Int) < q))) := by
  congr 1
  rw [← Bool.decide_and, ← Bool.decide_and, decide_eq_decide]; omega
theorem setOf_take (l : List Sp) (k : Nat) (h : k < l.length) (j : Nat) : setOf (l.take (k + 1)) j = (setOf (l.take k) j || (decide ((l.getD k (0, 0)).1 ≤ (j : Int)) && decide ((j : Int) < (l.getD k (0, 0)).2))) := by
  rw [setOf, setOf, List.take_succ_eq_append_getElem h, has_append, has_cons, has_nil, Bool.or_false]
  simp [h]
set_option maxHeartbeats 2000000 in
theorem Bits_any (v : Value) (l : List Sp) (w : World) (h : IsSpans w v l) :
    Calls Tryd.prog 124 #[v] w fun e w' => ∃ b f, e = .returned (.slice (some ⟨b, 0, none⟩) 64 64) ∧ w.heap.size ≤ b ∧ BoolBlk w' b f ∧ (∀ k, k < 64 → f k = setOf l k) ∧ Below w.heap.size w w' := by
  obtain ⟨a, c, rfl, hs, hm⟩ := h
  have hmk := run_make64
  go_enter Tryd.func124, Tryd.ntmps124
  go_wp2
  go_loopw [4, 5] (fun i _ wr => ∃ (k : Nat) (f : Nat → Bool), k ≤ l.length ∧ i = .int .i64 k ∧ BoolBlk wr w.heap.size f ∧ (∀ j, j < 64 → f j = setOf (l.take k) j) ∧ Below w.heap.size w wr) (fun i _ _ => l.length - (intOf i).toNat)
  case atStart => exact ⟨0, _, Nat.zero_le _, rfl, BoolBlk.new w, fun j _ => by simp [setOf, has], (Below.refl _ _).alloc (Nat.le_refl _) _⟩
  case round =>
    obtain ⟨k, f, hk, rfl, hblk, hf, hb⟩ := hrel
    by_cases hlt : k < l.length
    · obtain ⟨b, off, rfl, hcs⟩ := (hs.keep hb).at_ hlt
      obtain ⟨c1, c2⟩ := hcs k hlt
      clear hcs
      obtain ⟨s, hs'⟩ : ∃ s, l.getD k (0, 0) = s := ⟨_, rfl⟩
      rw [hs'] at c1 c2
      have HS := Lib.hid hs'
      have HF := Lib.hid hf
      clear hs' hf
      obtain ⟨p, q⟩ := s
      have hp0 : p < 0 ∨ 0 ≤ p := by omega
      rcases hp0 with hp0 | hp0
      · have hst : 0 ≤ (0 : Int) := by omega
        go_wp2
        obtain ⟨wo, rfl⟩ : ∃ wo : World, wo = wr := ⟨_, rfl⟩
        go_loopw [5] (fun i wr => ∃ (m : Int) (g : Nat → Bool), i = .int .i64 m ∧ (0 : Int) ≤ m ∧ (m = (0 : Int) ∨ (m ≤ q ∧ m ≤ 64)) ∧ BoolBlk wr w.heap.size g ∧ (∀ j, j < 64 → g j = (setOf (l.take k) j || (decide ((0 : Int) ≤ (j : Int)) && decide ((j : Int) < m)))) ∧ Below w.heap.size w wr) (fun i _ => (64 - intOf i).toNat)
        case atStart => exact ⟨_, f, rfl, Int.le_refl _, .inl rfl, hblk, fun j hj => by rw [HF.out j hj, no_span (0 : Int), Bool.or_false], hb⟩
        case round =>
          obtain ⟨m, g, rfl, hm1, hm2, hg, hgf, hbel⟩ := hrel
          have HG := Lib.hid hgf
          have HM := Lib.hid hm2
          clear hgf hm2
          have c2' : wr.cell? ⟨b, off + k * 2 + 1, none⟩ = some (.int .i64 q) := by
            obtain ⟨bb, oo, e, hcs⟩ := (hs.keep hbel).at_ hlt
            have e1 : b = bb := by injection e with e; injection e
            have e2 : off = oo := by injection e with e; injection e
            subst e1; subst e2
            have := (hcs k hlt).2
            rw [HS.out] at this; exact this
          by_cases h1 : m < q
          · by_cases h2 : m < 64
            · obtain ⟨mm, rfl⟩ := Int.eq_ofNat_of_zero_le (show 0 ≤ m by omega)
              have hcc := hg.cell (k := mm) (by omega)
              have hff := hg.frozen mm
              go_wp2
              go_roundw
              case rel =>
                refine ⟨(mm : Int) + 1, _, rfl, by omega, .inr ⟨by omega, by omega⟩, hg.set (by omega) true, fun j hj => ?_, hbel.setCell (p := ⟨w.heap.size, mm, none⟩) (Nat.le_refl _) _⟩
                exact step_span (0 : Int) mm j (g j) _ (HG.out j hj) (by omega)
              case measure => simp [intOf]; omega
            · go_wp2
              go_roundw
              case rel =>
                refine ⟨k + 1, g, by omega, by go_num, hg, fun j hj => ?_, hbel⟩
                rw [HG.out j hj, setOf_take l k hlt, HS.out]
                exact end_span (0 : Int) m p q j _ hj (by omega) (by have := HM.out; omega)
              case measure => simp [intOf]; omega
          · go_wp2
            go_roundw
            case rel =>
              refine ⟨k + 1, g, by omega, by go_num, hg, fun j hj => ?_, hbel⟩
              rw [HG.out j hj, setOf_take l k hlt, HS.out]
              exact end_span (0 : Int) m p q j _ hj (by omega) (by have := HM.out; omega)
            case measure => simp [intOf]; omega
      · have hst : 0 ≤ p := by omega
        go_wp2
        obtain ⟨wo, rfl⟩ : ∃ wo : World, wo = wr := ⟨_, rfl⟩
        go_loopw [5] (fun i wr => ∃ (m : Int) (g : Nat → Bool), i = .int .i64 m ∧ p ≤ m ∧ (m = p ∨ (m ≤ q ∧ m ≤ 64)) ∧ BoolBlk wr w.heap.size g ∧ (∀ j, j < 64 → g j = (setOf (l.take k) j || (decide (p ≤ (j : Int)) && decide ((j : Int) < m)))) ∧ Below w.heap.size w wr) (fun i _ => (64 - intOf i).toNat)
        case atStart => exact ⟨_, f, rfl, Int.le_refl _, .inl rfl, hblk, fun j hj => by rw [HF.out j hj, no_span p, Bool.or_false], hb⟩
        case round =>
          obtain ⟨m, g, rfl, hm1, hm2, hg, hgf, hbel⟩ := hrel
          have HG := Lib.hid hgf
          have HM := Lib.hid hm2
          clear hgf hm2
          have c2' : wr.cell? ⟨b, off + k * 2 + 1, none⟩ = some (.int .i64 q) := by
            obtain ⟨bb, oo, e, hcs⟩ := (hs.keep hbel).at_ hlt
            have e1 : b = bb := by injection e with e; injection e
            have e2 : off = oo := by injection e with e; injection e
            subst e1; subst e2
            have := (hcs k hlt).2
            rw [HS.out] at this; exact this
          by_cases h1 : m < q
          · by_cases h2 : m < 64
            · obtain ⟨mm, rfl⟩ := Int.eq_ofNat_of_zero_le (show 0 ≤ m by omega)
              have hcc := hg.cell (k := mm) (by omega)
              have hff := hg.frozen mm
              go_wp2
              go_roundw
              case rel =>
                refine ⟨(mm : Int) + 1, _, rfl, by omega, .inr ⟨by omega, by omega⟩, hg.set (by omega) true, fun j hj => ?_, hbel.setCell (p := ⟨w.heap.size, mm, none⟩) (Nat.le_refl _) _⟩
                exact step_span p mm j (g j) _ (HG.out j hj) (by omega)
              case measure => simp [intOf]; omega
            · go_wp2
              go_roundw
              case rel =>
                refine ⟨k + 1, g, by omega, by go_num, hg, fun j hj => ?_, hbel⟩
                rw [HG.out j hj, setOf_take l k hlt, HS.out]
                exact end_span p m p q j _ hj (by omega) (by have := HM.out; omega)
              case measure => simp [intOf]; omega
          · go_wp2
            go_roundw
            case rel =>
              refine ⟨k + 1, g, by omega, by go_num, hg, fun j hj => ?_, hbel⟩
              rw [HG.out j hj, setOf_take l k hlt, HS.out]
              exact end_span p m p q j _ hj (by omega) (by have := HM.out; omega)
            case measure => simp [intOf]; omega
    · have e : k = l.length := by omega
      subst e
      rw [List.take_length] at hf
      go_wp2
      go_ret
      exact ⟨_, f, rfl, Nat.le_refl _, hblk, hf, hb⟩
end Go.Proofs.YtdibijhaiaiifaaDoor
/- The walk of the reference's List. -/
namespace Go.Proofs.YtdibijhaiaiifaaDoor
open Go.RowKit
theorem canon_split (S : Nat → Bool) (out : List Sp) (n m : Nat) (fr : Int) (h : canon S = out ++ runs S n m fr) : out.length ≤ 32 := by
  have := canon_le S
  rw [h, List.length_append] at this; omega
theorem own_from {w : World} {base : Nat} {e : TypeId} {size n : Nat} {v : Value} {xs : List Value} (h : w.ownsRow base e size v n xs) : ∀ k, v.ownBlock = some k → base ≤ k := by
  intro k hk
  rcases h.2 with ⟨rfl, _⟩ | ⟨g, cap, cur, rfl, hg, _⟩
  · simp [Value.ownBlock] at hk
  · have : g = k := by simpa [Value.ownBlock] using hk
    omega
set_option maxRecDepth 100000 in
set_option maxHeartbeats 4000000 in
theorem List_any (b : Nat) (f : Nat → Bool) (w : World) (h : BoolBlk w b f) :
    Calls Tryd.prog 123 #[.slice (some ⟨b, 0, none⟩) 64 64] w fun e w' => ∃ v, e = .returned v ∧ IsSpans w' v (canon f) ∧ Below w.heap.size w w' := by
  obtain ⟨i0, hi, hz0', hz1', hz2⟩ := info_parts Tryd.info86
  go_enter Tryd.func123, Tryd.ntmps123
  go_wp2
  go_loopw [3, 4, 5] (fun v fr m wr => ∃ (k : Nat) (out : List Sp) (z : Int), k ≤ 65 ∧ m = .int .i64 k ∧ fr = .int .i64 z ∧ z < k ∧ wr.ownsRow w.heap.size 86 2 v out.length (flat out) ∧ canon f = out ++ runs f (65 - k) k z ∧ Below w.heap.size w wr) (fun _ _ m _ => 65 - (intOf m).toNat)
  case atStart => exact ⟨0, [], -1, by omega, rfl, rfl, by omega, World.ownsRow_nil _ _ _ _, rfl, Below.refl _ _⟩
  case round =>
    obtain ⟨k, out, z, hk, rfl, rfl, hz, hown, hc, hb⟩ := hrel
    have hol := canon_split _ _ _ _ _ hc
    have HC := Lib.hid hc
    clear hc
    by_cases h65 : k = 65
    · have h3 : 64 < k := by omega
      have HK := Lib.hid h65
      clear h65
      go_wp2
      go_ret
      refine ⟨_, rfl, ?_, hb⟩
      rw [HC.out, HK.out]
      simpa [runs] using IsSpans.of_owns hown (by omega)
    · have hk65 : k < 65 := by omega
      have e65 : 65 - k = (64 - k) + 1 := by omega
      have E65 := Lib.hid e65
      clear e65 h65
      by_cases hin : k < 64 ∧ f k = true
      · obtain ⟨h64, hf⟩ := hin
        have hcell : wr.cell? ⟨b, k, none⟩ = some (.bool true) := by rw [← hf]; exact cell_keep hb (h.cell h64)
        have HF := Lib.hid hf
        clear hf
        by_cases hz0 : z < 0
        · go_wp2
          go_roundw
          case rel => exact ⟨k + 1, out, k, by omega, by go_num, rfl, by omega, hown, by rw [HC.out, E65.out, runs_in_new f _ _ _ h64 HF.out hz0, show 65 - (k + 1) = 64 - k from by omega], hb⟩
          case measure => simp [intOf]; omega
        · have hz1 : 0 ≤ z := by omega
          go_wp2
          go_roundw
          case rel => exact ⟨k + 1, out, z, by omega, by go_num, rfl, by omega, hown, by rw [HC.out, E65.out, runs_in_on f _ _ _ h64 HF.out hz1, show 65 - (k + 1) = 64 - k from by omega], hb⟩
          case measure => simp [intOf]; omega
      · have hno : (decide (k < 64) && f k) = false := by
          by_cases h64 : k < 64
          · simp [h64]; cases hh : f k
            · rfl
            · exact absurd ⟨h64, hh⟩ hin
          · simp [h64]
        have HN := Lib.hid hno
        clear hno
        by_cases h64 : k < 64
        · have hcell : wr.cell? ⟨b, k, none⟩ = some (.bool false) := by
            have : f k = false := by have := HN.out; simpa [h64] using this
            rw [← this]; exact cell_keep hb (h.cell h64)
          clear hin
          by_cases hz0 : z < 0
          · go_wp2
            go_roundw
            case rel => exact ⟨k + 1, out, z, by omega, by go_num, rfl, by omega, hown, by rw [HC.out, E65.out, runs_out f _ _ _ HN.out hz0, show 65 - (k + 1) = 64 - k from by omega], hb⟩
            case measure => simp [intOf]; omega
          · have hz1 : 0 ≤ z := by omega
            go_wp2_with (at_builtin; refine wpList_append_own _ rfl _ _ 26 rfl w.heap.size 86 i0 (.agg #[.int .i64 0, .int .i64 0]) 2 16 Tryd.underlying26 hi hz0' hz1' hz2 rfl (by decide) _ _ _ rfl (hown.alloc _) ⟨wr.heap.size, 0, none⟩ 1 1 [.int .i64 z, .int .i64 k] rfl rfl (cells_two_new _ _ _ _) (by simp [Value.oneCell']) (by unfold maxLen; omega) (by omega) (by have := hb.size; simp; omega) ?_; intro v' w1 hown' hgrow _)
            have hb2 : Below w.heap.size w w1 := (hb.alloc hb.size _).grown hgrow (by have := hb.size; simp; omega) (own_from hown)
            go_wp2
            go_roundw
            case rel => exact ⟨k + 1, out ++ [(z, (k : Int))], -1, by omega, by go_num, rfl, by omega, by simpa [flat_append, flat] using hown', by rw [HC.out, E65.out, runs_end f _ _ _ HN.out hz1, List.append_assoc, show 65 - (k + 1) = 64 - k from by omega]; rfl, hb2⟩
            case measure => simp [intOf]; omega
        · have h64e : k = 64 := by omega
          subst h64e
          clear hin h64
          by_cases hz0 : z < 0
          · go_wp2
            go_roundw
            case rel => exact ⟨65, out, z, by omega, rfl, rfl, by omega, hown, by rw [HC.out, E65.out, runs_out f _ _ _ HN.out hz0], hb⟩
            case measure => simp [intOf]
          · have hz1 : 0 ≤ z := by omega
            go_wp2_with (at_builtin; refine wpList_append_own _ rfl _ _ 26 rfl w.heap.size 86 i0 (.agg #[.int .i64 0, .int .i64 0]) 2 16 Tryd.underlying26 hi hz0' hz1' hz2 rfl (by decide) _ _ _ rfl (hown.alloc _) ⟨wr.heap.size, 0, none⟩ 1 1 [.int .i64 z, .int .i64 64] rfl rfl (cells_two_new _ _ _ _) (by simp [Value.oneCell']) (by unfold maxLen; omega) (by omega) (by have := hb.size; simp; omega) ?_; intro v' w1 hown' hgrow _)
            have hb2 : Below w.heap.size w w1 := (hb.alloc hb.size _).grown hgrow (by have := hb.size; simp; omega) (own_from hown)
            go_wp2
            go_roundw
            case rel => exact ⟨65, out ++ [(z, (64 : Int))], -1, by omega, by go_num, rfl, by omega, by simpa [flat_append, flat] using hown', by rw [HC.out, E65.out, runs_end f _ _ _ HN.out hz1, List.append_assoc]; rfl, hb2⟩
            case measure => simp [intOf]
end Go.Proofs.YtdibijhaiaiifaaDoor
/- The walks of the reference's operations. -/
namespace Go.Proofs.YtdibijhaiaiifaaDoor
open Go.RowKit
theorem BoolBlk.far {w : World} {b : Nat} {f : Nat → Bool} (h : BoolBlk w b f) {p : Addr} (hp : b ≠ p.block) (u : Value) : BoolBlk (w.setCell p u) b f := by
  obtain ⟨cs, h, r⟩ := h
  exact ⟨cs, (Below.heap_setCell w p u b hp).trans h, r⟩
theorem rOf_any (v : Value) (l : List Sp) (w : World) (h : IsSpans w v l) :
    Calls Tryd.prog 79 #[v] w fun e w' => ∃ u, e = .returned u ∧ IsSpans w' u (canon (setOf l)) ∧ Below w.heap.size w w' := by
  go_enter Tryd.func79, Tryd.ntmps79
  go_wp2_with fail
  refine (Bits_any v l _ h).mono ?_
  rintro e w1 ⟨b, f, rfl, hb, hblk, hf, hb1⟩
  go_wp2_with fail
  refine (List_any b f _ hblk).mono ?_
  rintro e w2 ⟨u, rfl, hu, hb2⟩
  go_wp2
  go_ret
  exact ⟨u, rfl, by rw [← canon_ext hf]; exact hu, below_trans hb1 hb2⟩
set_option maxHeartbeats 2000000 in
theorem rUnion_any (va vb : Value) (a b : List Sp) (w : World) (ha : IsSpans w va a) (hb : IsSpans w vb b) :
    Calls Tryd.prog 81 #[va, vb] w fun e w' => ∃ u, e = .returned u ∧ IsSpans w' u (canon fun k => setOf a k || setOf b k) ∧ Below w.heap.size w w' := by
  go_enter Tryd.func81, Tryd.ntmps81
  go_wp2_with fail
  refine (Bits_any va a _ ha).mono ?_
  rintro e w1 ⟨bx, f, rfl, hbx, hf, hfa, hb1⟩
  go_wp2_with fail
  refine (Bits_any vb b _ (hb.keep hb1)).mono ?_
  rintro e w2 ⟨by', g, rfl, hby, hg, hgb, hb2⟩
  have hf2 := hf.keep hb2
  have hlt := hf.lt
  have hb12 := below_trans hb1 hb2
  have HFA := Lib.hid hfa
  have HGB := Lib.hid hgb
  clear hfa hgb
  go_wp2_with fail
  go_loopw [7] (fun i wr => ∃ (k : Nat) (h : Nat → Bool), k ≤ 64 ∧ i = .int .i64 k ∧ BoolBlk wr bx h ∧ BoolBlk wr by' g ∧ (∀ j, j < 64 → h j = if j < k then (f j || g j) else f j) ∧ Below w.heap.size w wr) (fun i _ => 64 - (intOf i).toNat)
  case atStart => exact ⟨0, f, by omega, rfl, hf2, hg, fun j _ => by simp, hb12⟩
  case round =>
    obtain ⟨k, h, hk, rfl, hh, hgr, hhf, hbel⟩ := hrel
    have HH := Lib.hid hhf
    clear hhf
    by_cases hlt64 : k < 64
    · have c1 := hh.cell hlt64
      have c2 := hgr.cell hlt64
      have f1 := hh.frozen k
      obtain ⟨u, hu⟩ : ∃ u, h k = u := ⟨_, rfl⟩
      obtain ⟨t, ht⟩ : ∃ t, g k = t := ⟨_, rfl⟩
      rw [hu] at c1
      rw [ht] at c2
      have HU := Lib.hid hu
      have HT := Lib.hid ht
      clear hu ht
      cases u
      all_goals
        go_wp2
        go_roundw
        case rel =>
          refine ⟨k + 1, _, by omega, by go_num, hh.set hlt64 _, hgr.far (p := ⟨bx, k, none⟩) (by intro e; subst e; omega) _, fun j hj => ?_, hbel.setCell (p := ⟨bx, k, none⟩) (by omega) _⟩
          have hfk : f k = h k := by have := HH.out k hlt64; simpa using this.symm
          by_cases hjk : j = k
          · subst hjk
            have : j < j + 1 := by omega
            simp [hfk, HU.out, HT.out]
          · have e1 : (j < k + 1) ↔ j < k := by omega
            simp only [hjk, if_false, HH.out j hj, e1]
        case measure => simp [intOf]; omega
    · have e : k = 64 := by omega
      have HE := Lib.hid e
      clear e
      go_wp2_with fail
      refine (List_any bx h _ hh).mono ?_
      rintro e w4 ⟨u, rfl, hu, hb4⟩
      go_wp2
      go_ret
      refine ⟨u, rfl, ?_, below_trans hbel hb4⟩
      rw [canon_ext (T := h) (fun j hj => by rw [HH.out j hj, HE.out, if_pos hj, HFA.out j hj, HGB.out j hj])]
      exact hu
set_option maxHeartbeats 2000000 in
theorem rMeet_any (va vb : Value) (a b : List Sp) (w : World) (ha : IsSpans w va a) (hb : IsSpans w vb b) :
    Calls Tryd.prog 85 #[va, vb] w fun e w' => ∃ u, e = .returned u ∧ IsSpans w' u (canon fun k => setOf a k && setOf b k) ∧ Below w.heap.size w w' := by
  go_enter Tryd.func85, Tryd.ntmps85
  go_wp2_with fail
  refine (Bits_any va a _ ha).mono ?_
  rintro e w1 ⟨bx, f, rfl, hbx, hf, hfa, hb1⟩
  go_wp2_with fail
  refine (Bits_any vb b _ (hb.keep hb1)).mono ?_
  rintro e w2 ⟨by', g, rfl, hby, hg, hgb, hb2⟩
  have hf2 := hf.keep hb2
  have hlt := hf.lt
  have hb12 := below_trans hb1 hb2
  have HFA := Lib.hid hfa
  have HGB := Lib.hid hgb
  clear hfa hgb
  go_wp2_with fail
  go_loopw [7] (fun i wr => ∃ (k : Nat) (h : Nat → Bool), k ≤ 64 ∧ i = .int .i64 k ∧ BoolBlk wr bx h ∧ BoolBlk wr by' g ∧ (∀ j, j < 64 → h j = if j < k then (f j && g j) else f j) ∧ Below w.heap.size w wr) (fun i _ => 64 - (intOf i).toNat)
  case atStart => exact ⟨0, f, by omega, rfl, hf2, hg, fun j _ => by simp, hb12⟩
  case round =>
    obtain ⟨k, h, hk, rfl, hh, hgr, hhf, hbel⟩ := hrel
    have HH := Lib.hid hhf
    clear hhf
    by_cases hlt64 : k < 64
    · have c1 := hh.cell hlt64
      have c2 := hgr.cell hlt64
      have f1 := hh.frozen k
      obtain ⟨u, hu⟩ : ∃ u, h k = u := ⟨_, rfl⟩
      obtain ⟨t, ht⟩ : ∃ t, g k = t := ⟨_, rfl⟩
      rw [hu] at c1
      rw [ht] at c2
      have HU := Lib.hid hu
      have HT := Lib.hid ht
      clear hu ht
      cases u
      all_goals
        go_wp2
        go_roundw
        case rel =>
          refine ⟨k + 1, _, by omega, by go_num, hh.set hlt64 _, hgr.far (p := ⟨bx, k, none⟩) (by intro e; subst e; omega) _, fun j hj => ?_, hbel.setCell (p := ⟨bx, k, none⟩) (by omega) _⟩
          have hfk : f k = h k := by have := HH.out k hlt64; simpa using this.symm
          by_cases hjk : j = k
          · subst hjk
            have : j < j + 1 := by omega
            simp [hfk, HU.out, HT.out]
          · have e1 : (j < k + 1) ↔ j < k := by omega
            simp only [hjk, if_false, HH.out j hj, e1]
        case measure => simp [intOf]; omega
    · have e : k = 64 := by omega
      have HE := Lib.hid e
      clear e
      go_wp2_with fail
      refine (List_any bx h _ hh).mono ?_
      rintro e w4 ⟨u, rfl, hu, hb4⟩
      go_wp2
      go_ret
      refine ⟨u, rfl, ?_, below_trans hbel hb4⟩
      rw [canon_ext (T := h) (fun j hj => by rw [HH.out j hj, HE.out, if_pos hj, HFA.out j hj, HGB.out j hj])]
      exact hu
set_option maxHeartbeats 2000000 in
theorem rNot_any (va : Value) (a : List Sp) (w : World) (ha : IsSpans w va a) :
    Calls Tryd.prog 125 #[va] w fun e w' => ∃ u, e = .returned u ∧ IsSpans w' u (canon fun k => !setOf a k) ∧ Below w.heap.size w w' := by
  go_enter Tryd.func125, Tryd.ntmps125
  go_wp2_with fail
  refine (Bits_any va a _ ha).mono ?_
  rintro e w1 ⟨bx, f, rfl, hbx, hf, hfa, hb1⟩
  have HFA := Lib.hid hfa
  clear hfa
  go_wp2_with fail
  go_loopw [4] (fun i wr => ∃ (k : Nat) (h : Nat → Bool), k ≤ 64 ∧ i = .int .i64 k ∧ BoolBlk wr bx h ∧ (∀ j, j < 64 → h j = if j < k then !f j else f j) ∧ Below w.heap.size w wr) (fun i _ => 64 - (intOf i).toNat)
  case atStart => exact ⟨0, f, by omega, rfl, hf, fun j _ => by simp, hb1⟩
  case round =>
    obtain ⟨k, h, hk, rfl, hh, hhf, hbel⟩ := hrel
    have HH := Lib.hid hhf
    clear hhf
    by_cases hlt64 : k < 64
    · have c1 := hh.cell hlt64
      have f1 := hh.frozen k
      obtain ⟨u, hu⟩ : ∃ u, h k = u := ⟨_, rfl⟩
      rw [hu] at c1
      have HU := Lib.hid hu
      clear hu
      go_wp2
      go_roundw
      case rel =>
        refine ⟨k + 1, _, by omega, by go_num, hh.set hlt64 _, fun j hj => ?_, hbel.setCell (p := ⟨bx, k, none⟩) (by omega) _⟩
        have hfk : f k = h k := by have := HH.out k hlt64; simpa using this.symm
        by_cases hjk : j = k
        · subst hjk
          simp [hfk, HU.out]
        · have e1 : (j < k + 1) ↔ j < k := by omega
          simp only [hjk, if_false, HH.out j hj, e1]
      case measure => simp [intOf]; omega
    · have e : k = 64 := by omega
      have HE := Lib.hid e
      clear e
      go_wp2_with fail
      refine (List_any bx h _ hh).mono ?_
      rintro e w4 ⟨u, rfl, hu, hb4⟩
      go_wp2
      go_ret
      refine ⟨u, rfl, ?_, below_trans hbel hb4⟩
      rw [canon_ext (T := h) (fun j hj => by rw [HH.out j hj, HE.out, if_pos hj, HFA.out j hj])]
      exact hu
theorem rMinus_any (va vb : Value) (a b : List Sp) (w : World) (ha : IsSpans w va a) (hb : IsSpans w vb b) :
    Calls Tryd.prog 82 #[va, vb] w fun e w' => ∃ u, e = .returned u ∧ IsSpans w' u (canon fun k => setOf a k && !setOf b k) ∧ Below w.heap.size w w' := by
  go_enter Tryd.func82, Tryd.ntmps82
  go_wp2_with fail
  refine (rNot_any vb b _ hb).mono ?_
  rintro e w1 ⟨v1, rfl, h1, hb1⟩
  go_wp2_with fail
  refine (rMeet_any va v1 a _ _ (ha.keep hb1) h1).mono ?_
  rintro e w2 ⟨v2, rfl, h2, hb2⟩
  go_wp2
  go_ret
  refine ⟨v2, rfl, ?_, below_trans hb1 hb2⟩
  rw [canon_ext (T := fun k => setOf a k && setOf (canon fun k => !setOf b k) k) (fun j hj => by rw [setOf_canon _ j hj])]
  exact h2
theorem Valid_any (v : Value) (l : List Sp) (w : World) (hT : Tab w) (h : IsSpans w v l) :
    Calls Tryd.prog 72 #[v] w fun e w' => e = .returned (.bool (decide (l = canon (setOf l)))) ∧ Below w.heap.size w w' := by
  go_enter Tryd.func72, Tryd.ntmps72
  go_wp2_with fail
  refine (Of_any v l _ hT h).mono ?_
  rintro e w1 ⟨v1, rfl, ⟨h1, -⟩, hb1⟩
  go_wp2_with fail
  refine (Equal_any v v1 l _ _ (h.keep hb1) h1).mono ?_
  rintro e w2 ⟨rfl, hb2⟩
  go_wp2
  go_ret
  exact ⟨rfl, below_trans hb1 hb2⟩
theorem rValid_any (v : Value) (l : List Sp) (w : World) (h : IsSpans w v l) :
    Calls Tryd.prog 110 #[v] w fun e w' => e = .returned (.bool (decide (l = canon (setOf l)))) ∧ Below w.heap.size w w' := by
  go_enter Tryd.func110, Tryd.ntmps110
  go_wp2_with fail
  refine (rOf_any v l _ h).mono ?_
  rintro e w1 ⟨v1, rfl, h1, hb1⟩
  go_wp2_with fail
  refine (Same_any v v1 l _ _ (h.keep hb1) h1).mono ?_
  rintro e w2 ⟨rfl, hb2⟩
  go_wp2
  go_ret
  exact ⟨rfl, below_trans hb1 hb2⟩
theorem rHas_any (va : Value) (a : List Sp) (k : Int) (w : World) (ha : IsSpans w va a) :
    Calls Tryd.prog 89 #[va, .int .i64 k] w fun e w' => e = .returned (.bool (inSet a k)) ∧ Below w.heap.size w w' := by
  by_cases h0 : 0 ≤ k
  · by_cases h1 : k < 64
    · obtain ⟨n, rfl⟩ := Int.eq_ofNat_of_zero_le h0
      have E := Lib.hid (show inSet a (n : Int) = setOf a n from by simp [inSet, setOf]; omega)
      go_enter Tryd.func89, Tryd.ntmps89
      go_wp2_with (first | (go_at_call 124; refine (Bits_any va a _ ha).mono ?_; rintro e w1 ⟨b, f, rfl, hb, hblk, hf, hb1⟩; have c1 := hblk.cell (k := n) (by omega); have HF := Lib.hid hf; clear hf))
      go_ret
      exact ⟨by rw [E.out, ← HF.out n (by omega)]; rfl, hb1⟩
    · have E := Lib.hid (show inSet a k = false from by simp [inSet]; omega)
      go_enter Tryd.func89, Tryd.ntmps89
      go_wp2
      go_ret
      exact ⟨by rw [E.out]; rfl, Below.refl _ _⟩
  · have E := Lib.hid (show inSet a k = false from by simp [inSet]; omega)
    go_enter Tryd.func89, Tryd.ntmps89
    go_wp2
    go_ret
    exact ⟨by rw [E.out]; rfl, Below.refl _ _⟩
/-- How many of the first k moments are in the set. -/
def cntTo (f : Nat → Bool) (k : Nat) : Nat := (List.range k).countP f
theorem cntTo_succ (f : Nat → Bool) (k : Nat) : cntTo f (k + 1) = cntTo f k + if f k = true then 1 else 0 := by
  unfold cntTo
  rw [List.range_succ, List.countP_append]; simp [List.countP_cons]
theorem cntTo_le (f : Nat → Bool) (k : Nat) : cntTo f k ≤ k := by
  have := List.countP_le_length (p := f) (l := List.range k)
  simpa [cntTo] using this
theorem cntTo_ext {f g : Nat → Bool} (h : ∀ k, k < 64 → f k = g k) : cntTo f 64 = cntTo g 64 := by
  unfold cntTo
  exact List.countP_congr fun k hk => by rw [h k (by simpa using hk)]
end Go.Proofs.YtdibijhaiaiifaaDoor
/- Tuples, their order, relations over moments: the plain mathematics, no program in sight. -/
namespace Go.Proofs.YtdibijhaiaiifaaDoor
/-! ### Comparisons -/
structure IsCmp {α : Type} (f : α → α → Int) : Prop where
  val : ∀ x y, f x y = -1 ∨ f x y = 0 ∨ f x y = 1
  eq : ∀ x y, f x y = 0 ↔ x = y
  anti : ∀ x y, f y x = - f x y
  trans : ∀ x y z, f x y < 0 → f y z < 0 → f x z < 0
def cmpI (a b : Int) : Int := if a < b then -1 else if b < a then 1 else 0
theorem cmpI_is : IsCmp cmpI where
  val := fun x y => by unfold cmpI; split <;> (try split) <;> simp
  eq := fun x y => by unfold cmpI; split <;> (try split) <;> simp <;> omega
  anti := fun x y => by unfold cmpI; split <;> split <;> (try split) <;> omega
  trans := fun x y z h k => by
    unfold cmpI at *
    split at h
    · split at k
      · rw [if_pos (by omega)]; omega
      · split at k <;> omega
    · split at h <;> omega
/-- Lists by a comparison of their elements. -/
def cmpL {α : Type} (f : α → α → Int) : List α → List α → Int
  | [], [] => 0
  | [], _ :: _ => -1
  | _ :: _, [] => 1
  | x :: a, y :: b => if f x y = 0 then cmpL f a b else f x y
theorem cmpL_is {α : Type} {f : α → α → Int} (hf : IsCmp f) : IsCmp (cmpL f) where
  val := fun a => by
    induction a with
    | nil => intro b; cases b <;> simp [cmpL]
    | cons x a ih =>
      intro b
      cases b with
      | nil => simp [cmpL]
      | cons y b =>
        rw [cmpL]
        split
        · exact ih b
        · exact hf.val x y
  eq := fun a => by
    induction a with
    | nil => intro b; cases b <;> simp [cmpL]
    | cons x a ih =>
      intro b
      cases b with
      | nil => simp [cmpL]
      | cons y b =>
        rw [cmpL]
        split
        · rename_i h
          rw [ih b]
          have := (hf.eq x y).1 h
          subst this
          simp
        · rename_i h
          constructor
          · intro h'; exact absurd h' h
          · intro e
            simp only [List.cons.injEq] at e
            exact absurd ((hf.eq x y).2 e.1) h
  anti := fun a => by
    induction a with
    | nil => intro b; cases b <;> simp [cmpL]
    | cons x a ih =>
      intro b
      cases b with
      | nil => simp [cmpL]
      | cons y b =>
        rw [cmpL, cmpL, hf.anti x y]
        by_cases h : f x y = 0
        · rw [if_pos (by omega), if_pos h, ih b]
        · rw [if_neg (by omega), if_neg h]
  trans := fun a => by
    induction a with
    | nil =>
      intro b c h k
      cases b with
      | nil => simp [cmpL] at h
      | cons y b =>
        cases c with
        | nil => simp [cmpL] at k
        | cons z c => simp [cmpL]
    | cons x a ih =>
      intro b c h k
      cases b with
      | nil => simp [cmpL] at h
      | cons y b =>
        cases c with
        | nil => simp [cmpL] at k
        | cons z c =>
          rw [cmpL] at h k ⊢
          by_cases h1 : f x y = 0
          · rw [if_pos h1] at h
            have e := (hf.eq x y).1 h1
            subst e
            by_cases h2 : f x z = 0
            · rw [if_pos h2] at k ⊢
              exact ih b c h k
            · rw [if_neg h2] at k ⊢
              exact k
          · rw [if_neg h1] at h
            by_cases h2 : f y z = 0
            · have e := (hf.eq y z).1 h2
              subst e
              rw [if_neg h1]; exact h
            · rw [if_neg h2] at k
              have h3 := hf.trans x y z h k
              rw [if_neg (by omega)]; exact h3
def cmpB (x y : UInt8) : Int := cmpI x.toNat y.toNat
theorem cmpB_is : IsCmp cmpB where
  val := fun x y => cmpI_is.val _ _
  eq := fun x y => by
    unfold cmpB
    rw [cmpI_is.eq]
    constructor
    · intro h; exact UInt8.toNat_inj.1 (by omega)
    · intro h; rw [h]
  anti := fun x y => cmpI_is.anti _ _
  trans := fun x y z => cmpI_is.trans _ _ _
/-! ### Values -/
structure Vl where
  t : Int
  n : Int
  s : List UInt8
  ok : s.length ≤ 9223372036854775807
theorem Vl.ext' {a b : Vl} (h : a.t = b.t) (k : a.n = b.n) (l : a.s = b.s) : a = b := by cases a; cases b; simp at h k l; subst h k l; rfl
instance : DecidableEq Vl := fun a b => if h : a.t = b.t ∧ a.n = b.n ∧ a.s = b.s then isTrue (Vl.ext' h.1 h.2.1 h.2.2) else isFalse fun e => h (by subst e; exact ⟨rfl, rfl, rfl⟩)
def cmpV (a b : Vl) : Int := if cmpI a.t b.t = 0 then (if cmpI a.n b.n = 0 then cmpL cmpB a.s b.s else cmpI a.n b.n) else cmpI a.t b.t
theorem cmpV_is : IsCmp cmpV where
  val := fun a b => by
    unfold cmpV
    split
    · split
      · exact (cmpL_is cmpB_is).val _ _
      · exact cmpI_is.val _ _
    · exact cmpI_is.val _ _
  eq := fun a b => by
    unfold cmpV
    split
    · rename_i h1
      have e1 := (cmpI_is.eq _ _).1 h1
      split
      · rename_i h2
        have e2 := (cmpI_is.eq _ _).1 h2
        rw [(cmpL_is cmpB_is).eq]
        exact ⟨fun e => Vl.ext' e1 e2 e, fun e => by rw [e]⟩
      · rename_i h2
        exact ⟨fun e => absurd e h2, fun e => absurd ((cmpI_is.eq _ _).2 (by rw [e])) h2⟩
    · rename_i h1
      exact ⟨fun e => absurd e h1, fun e => absurd ((cmpI_is.eq _ _).2 (by rw [e])) h1⟩
  anti := fun a b => by
    unfold cmpV
    rw [cmpI_is.anti a.t b.t, cmpI_is.anti a.n b.n, (cmpL_is cmpB_is).anti a.s b.s]
    by_cases h1 : cmpI a.t b.t = 0
    · rw [if_pos (by omega), if_pos h1]
      by_cases h2 : cmpI a.n b.n = 0
      · rw [if_pos (by omega), if_pos h2]
      · rw [if_neg (by omega), if_neg h2]
    · rw [if_neg (by omega), if_neg h1]
  trans := fun a b c h k => by
    unfold cmpV at *
    by_cases h1 : cmpI a.t b.t = 0
    · have e1 := (cmpI_is.eq _ _).1 h1
      rw [if_pos h1] at h
      rw [e1]
      by_cases k1 : cmpI b.t c.t = 0
      · rw [if_pos k1] at k ⊢
        by_cases h2 : cmpI a.n b.n = 0
        · have e2 := (cmpI_is.eq _ _).1 h2
          rw [if_pos h2] at h
          rw [e2]
          by_cases k2 : cmpI b.n c.n = 0
          · rw [if_pos k2] at k ⊢
            exact (cmpL_is cmpB_is).trans _ _ _ h k
          · rw [if_neg k2] at k ⊢
            exact k
        · rw [if_neg h2] at h
          by_cases k2 : cmpI b.n c.n = 0
          · have e2 := (cmpI_is.eq _ _).1 k2
            rw [← e2, if_neg h2]; exact h
          · rw [if_neg k2] at k
            have := cmpI_is.trans _ _ _ h k
            rw [if_neg (by omega)]; exact this
      · rw [if_neg k1] at k ⊢
        exact k
    · rw [if_neg h1] at h
      by_cases k1 : cmpI b.t c.t = 0
      · have e1 := (cmpI_is.eq _ _).1 k1
        rw [← e1, if_neg h1]; exact h
      · rw [if_neg k1] at k
        have := cmpI_is.trans _ _ _ h k
        rw [if_neg (by omega)]; exact this
/-! ### Tuples -/
abbrev Tp := List Vl
def cmpT (a b : Tp) : Int := cmpL cmpV a b
theorem cmpT_is : IsCmp cmpT := cmpL_is cmpV_is
theorem IsCmp.refl {α : Type} {f : α → α → Int} (h : IsCmp f) (x : α) : f x x = 0 := (h.eq x x).2 rfl
theorem IsCmp.lt_le {α : Type} {f : α → α → Int} (h : IsCmp f) {x y z : α} (a : f x y < 0) (b : f y z ≤ 0) : f x z < 0 := by
  rcases Int.lt_or_eq_of_le b with b | b
  · exact h.trans _ _ _ a b
  · rw [← (h.eq y z).1 b]; exact a
theorem IsCmp.le_lt {α : Type} {f : α → α → Int} (h : IsCmp f) {x y z : α} (a : f x y ≤ 0) (b : f y z < 0) : f x z < 0 := by
  rcases Int.lt_or_eq_of_le a with a | a
  · exact h.trans _ _ _ a b
  · rw [(h.eq x y).1 a]; exact b
theorem IsCmp.le_trans {α : Type} {f : α → α → Int} (h : IsCmp f) {x y z : α} (a : f x y ≤ 0) (b : f y z ≤ 0) : f x z ≤ 0 := by
  rcases Int.lt_or_eq_of_le a with a | a
  · exact Int.le_of_lt (h.lt_le a b)
  · rw [(h.eq x y).1 a]; exact b
theorem IsCmp.total {α : Type} {f : α → α → Int} (h : IsCmp f) (x y : α) : f x y ≤ 0 ∨ f y x < 0 := by
  have := h.anti x y
  omega
/-! ### Relations -/
abbrev Rw := Tp × List Sp
/-- Whether a tuple holds at a moment. -/
def mom (r : List Rw) (t : Tp) (k : Nat) : Bool := r.any fun x => decide (x.1 = t) && setOf x.2 k
theorem mom_nil (t : Tp) (k : Nat) : mom [] t k = false := rfl
theorem mom_cons (x : Rw) (r : List Rw) (t : Tp) (k : Nat) : mom (x :: r) t k = ((decide (x.1 = t) && setOf x.2 k) || mom r t k) := rfl
theorem mom_append (a b : List Rw) (t : Tp) (k : Nat) : mom (a ++ b) t k = (mom a t k || mom b t k) := by simp [mom, List.any_append]
theorem mom_perm {a b : List Rw} (h : a.Perm b) (t : Tp) (k : Nat) : mom a t k = mom b t k := by
  unfold mom
  rw [Bool.eq_iff_iff, List.any_eq_true, List.any_eq_true]
  exact ⟨fun ⟨x, hx, e⟩ => ⟨x, h.mem_iff.1 hx, e⟩, fun ⟨x, hx, e⟩ => ⟨x, h.mem_iff.2 hx, e⟩⟩
/-- Tuples that grow. -/
def Up : List Rw → Prop
  | [] => True
  | x :: r => (∀ y ∈ r, cmpT x.1 y.1 < 0) ∧ Up r
/-- Spans that are canonical and not none. -/
def OkW (l : List Sp) : Prop := l ≠ [] ∧ canon (setOf l) = l
def IsCan (r : List Rw) : Prop := Up r ∧ ∀ x ∈ r, OkW x.2
theorem mom_none {r : List Rw} {t : Tp} (h : ∀ y ∈ r, cmpT t y.1 < 0) (k : Nat) : mom r t k = false := by
  unfold mom
  rw [List.any_eq_false]
  intro x hx
  have h1 := h x hx
  have : x.1 ≠ t := fun e => by rw [e, cmpT_is.refl] at h1; omega
  simp [this]
theorem mom_head {x : Rw} {r : List Rw} (h : Up (x :: r)) (k : Nat) : mom (x :: r) x.1 k = setOf x.2 k := by
  rw [mom_cons, mom_none h.1, decide_eq_true rfl, Bool.true_and, Bool.or_false]
theorem mom_tail {x : Rw} {r : List Rw} {t : Tp} (h : x.1 ≠ t) (k : Nat) : mom (x :: r) t k = mom r t k := by
  rw [mom_cons, decide_eq_false h, Bool.false_and, Bool.false_or]
theorem ok_some {l : List Sp} (h : OkW l) : ∃ k, k < 64 ∧ setOf l k = true := by
  refine Classical.byContradiction fun hn => h.1 ?_
  rw [← h.2, canon_ext (T := fun _ => false) fun k hk => ?_]
  · decide
  · cases e : setOf l k with
    | false => rfl
    | true => exact absurd ⟨k, hk, e⟩ hn
/-- A canonical relation is known by its moments. -/
theorem can_ext : ∀ (a b : List Rw), IsCan a → IsCan b → (∀ t k, k < 64 → mom a t k = mom b t k) → a = b
  | [], [], _, _, _ => rfl
  | [], y :: b, _, hb, h => by
    obtain ⟨k, hk, e⟩ := ok_some (hb.2 y (by simp))
    have := h y.1 k hk
    rw [mom_head hb.1, e, mom_nil] at this
    cases this
  | x :: a, [], ha, _, h => by
    obtain ⟨k, hk, e⟩ := ok_some (ha.2 x (by simp))
    have := h x.1 k hk
    rw [mom_head ha.1, e, mom_nil] at this
    cases this
  | x :: a, y :: b, ha, hb, h => by
    have hxy : x.1 = y.1 := by
      rcases cmpT_is.total x.1 y.1 with hle | hlt
      · rcases Int.lt_or_eq_of_le hle with hlt | he
        · obtain ⟨k, hk, e⟩ := ok_some (ha.2 x (by simp))
          have := h x.1 k hk
          rw [mom_head ha.1, e, mom_none fun z hz => ?_] at this
          · cases this
          · rcases List.mem_cons.1 hz with rfl | hz
            · exact hlt
            · exact cmpT_is.trans _ _ _ hlt (hb.1.1 z hz)
        · exact (cmpT_is.eq _ _).1 he
      · obtain ⟨k, hk, e⟩ := ok_some (hb.2 y (by simp))
        have := h y.1 k hk
        rw [mom_head hb.1, e, mom_none fun z hz => ?_] at this
        · cases this
        · rcases List.mem_cons.1 hz with rfl | hz
          · exact hlt
          · exact cmpT_is.trans _ _ _ hlt (ha.1.1 z hz)
    have hw : x.2 = y.2 := by
      rw [← (ha.2 x (by simp)).2, ← (hb.2 y (by simp)).2]
      refine canon_ext fun k hk => ?_
      rw [← mom_head ha.1, ← mom_head hb.1, hxy]
      have := h y.1 k hk
      exact this
    have ht : a = b := can_ext a b ⟨ha.1.2, fun z hz => ha.2 z (by simp [hz])⟩ ⟨hb.1.2, fun z hz => hb.2 z (by simp [hz])⟩ fun t k hk => by
      by_cases e : x.1 = t
      · subst e
        rw [mom_none ha.1.1, hxy, mom_none hb.1.1]
      · rw [← mom_tail (r := a) e, h t k hk, mom_tail (by rw [← hxy]; exact e)]
    have : x = y := Prod.ext hxy hw
    rw [this, ht]
/-! ### A sorted list's runs -/
def Sorted : List Rw → Prop
  | [] => True
  | x :: r => (∀ y ∈ r, cmpT x.1 y.1 ≤ 0) ∧ Sorted r
/-- The spans of the rows at the head that have a tuple, and the rows behind them. -/
def headW (t : Tp) : List Rw → List Sp
  | [] => []
  | x :: r => if cmpT t x.1 = 0 then x.2 ++ headW t r else []
def headN (t : Tp) : List Rw → Nat
  | [] => 0
  | x :: r => if cmpT t x.1 = 0 then headN t r + 1 else 0
theorem headN_le (t : Tp) : ∀ r, headN t r ≤ r.length
  | [] => Nat.le_refl _
  | x :: r => by
    rw [headN]
    split
    · have := headN_le t r; simp; omega
    · simp
/-- What canonical makes of a sorted list, n rows at most. -/
def group : Nat → List Rw → List Rw
  | 0, _ => []
  | _ + 1, [] => []
  | n + 1, x :: r => if canon (setOf (headW x.1 (x :: r))) = [] then group n ((x :: r).drop (headN x.1 (x :: r))) else (x.1, canon (setOf (headW x.1 (x :: r)))) :: group n ((x :: r).drop (headN x.1 (x :: r)))
end Go.Proofs.YtdibijhaiaiifaaDoor
