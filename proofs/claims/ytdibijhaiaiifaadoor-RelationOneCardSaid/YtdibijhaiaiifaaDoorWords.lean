/- A set of moments as the bits of a 64-bit word: the plain arithmetic, no program in sight. -/
import Derived.Test.YtdibijhaiaiifaaDoorMath
namespace Go.Proofs.YtdibijhaiaiifaaDoor
def top64 : Nat := 18446744073709551615
def belowN (n : Int) : Nat := if n ≤ 0 then 0 else if 64 ≤ n then top64 else 2 ^ n.toNat - 1
theorem top_bit (k : Nat) : top64.testBit k = decide (k < 64) := by
  have : top64 = 2 ^ 64 - 1 := rfl
  rw [this, Nat.testBit_two_pow_sub_one]
theorem belowN_lt (n : Int) : belowN n < 18446744073709551616 := by
  unfold belowN
  split
  · omega
  · split
    · unfold top64; omega
    · have : 2 ^ n.toNat ≤ 2 ^ 63 := Nat.pow_le_pow_right (by omega) (by omega)
      have : (2 : Nat) ^ 63 = 9223372036854775808 := rfl
      omega
theorem belowN_bit (n : Int) (k : Nat) (hk : k < 64) : (belowN n).testBit k = decide ((k : Int) < n) := by
  unfold belowN
  split
  · simp; omega
  · split
    · rw [top_bit]; rw [decide_eq_decide]; omega
    · rw [Nat.testBit_two_pow_sub_one]; rw [decide_eq_decide]; omega
def notW (x : Nat) : Nat := top64 - x
theorem notW_lt (x : Nat) : notW x < 18446744073709551616 := by unfold notW top64; omega
theorem notW_bit (x k : Nat) (hx : x < 18446744073709551616) (hk : k < 64) : (notW x).testBit k = !x.testBit k := by
  have : notW x = 2 ^ 64 - (x + 1) := by unfold notW top64; omega
  rw [this, Nat.testBit_two_pow_sub_succ (by exact hx)]; simp [hk]
theorem and_lt {x y : Nat} (hy : y < 18446744073709551616) : x &&& y < 18446744073709551616 := Nat.lt_of_le_of_lt Nat.and_le_right hy
theorem or_lt {x y : Nat} (hx : x < 18446744073709551616) (hy : y < 18446744073709551616) : x ||| y < 18446744073709551616 := Nat.or_lt_two_pow (n := 64) hx hy
def spanW (s : Sp) : Nat := belowN s.2 &&& notW (belowN s.1)
def ofW (l : List Sp) : Nat := l.foldl (fun w s => w ||| spanW s) 0
theorem spanW_lt (s : Sp) : spanW s < 18446744073709551616 := and_lt (notW_lt _)
theorem spanW_bit (s : Sp) (k : Nat) (hk : k < 64) : (spanW s).testBit k = (decide (s.1 ≤ (k : Int)) && decide ((k : Int) < s.2)) := by
  unfold spanW
  rw [Nat.testBit_and, notW_bit _ _ (belowN_lt _) hk, belowN_bit _ _ hk, belowN_bit _ _ hk, Bool.and_comm]
  congr 1
  rw [← decide_not, decide_eq_decide]; omega
theorem foldW (l : List Sp) : ∀ w : Nat, w < 18446744073709551616 → l.foldl (fun w s => w ||| spanW s) w < 18446744073709551616 ∧
    ∀ k, k < 64 → (l.foldl (fun w s => w ||| spanW s) w).testBit k = (w.testBit k || setOf l k) := by
  induction l with
  | nil => intro w h; exact ⟨h, fun k _ => by simp [setOf, has]⟩
  | cons s l ih =>
    intro w h
    obtain ⟨a, b⟩ := ih (w ||| spanW s) (or_lt h (spanW_lt s))
    refine ⟨a, fun k hk => ?_⟩
    rw [List.foldl_cons, b k hk, Nat.testBit_or, spanW_bit s k hk]
    simp [setOf, has_cons, Bool.or_assoc]
theorem ofW_lt (l : List Sp) : ofW l < 18446744073709551616 := (foldW l 0 (by omega)).1
theorem ofW_bit (l : List Sp) (k : Nat) (hk : k < 64) : (ofW l).testBit k = setOf l k := by
  rw [ofW, (foldW l 0 (by omega)).2 k hk]; simp
theorem ofW_snoc (l : List Sp) (s : Sp) : ofW (l ++ [s]) = ofW l ||| spanW s := by simp [ofW]
theorem ofW_take (l : List Sp) (k : Nat) (h : k < l.length) : ofW (l.take (k + 1)) = ofW (l.take k) ||| spanW (l.getD k (0, 0)) := by
  rw [List.take_succ_eq_append_getElem h, ofW_snoc]; simp [h]
/-- The bits as a set. -/
def bitsOf (x : Nat) (k : Nat) : Bool := x.testBit k
theorem canon_ofW (l : List Sp) : canon (bitsOf (ofW l)) = canon (setOf l) := canon_ext fun k hk => ofW_bit l k hk
theorem canon_notW (x : Nat) (hx : x < 18446744073709551616) : canon (bitsOf (notW x)) = canon fun k => !x.testBit k := canon_ext fun k hk => notW_bit x k hx hk
/-- The number of moments of a list. -/
def size (l : List Sp) : Nat := (List.range 64).countP (setOf l)
theorem ones_ofW (l : List Sp) : onesOf (ofW l) = size l := by
  rw [ones_eq]
  unfold cntBits size
  refine List.countP_congr fun k hk => ?_
  rw [ofW_bit l k (by simpa using hk)]

/-! ### Trailing zeros -/
theorem div_bit (x a k : Nat) : (x / 2 ^ a).testBit k = x.testBit (a + k) := by rw [Nat.testBit_div_two_pow, Nat.add_comm]
theorem ctz_bits (y : Nat) (h0 : y ≠ 0) (h : y < 2 ^ 64) : Lib.ctz 64 y < 64 ∧ y.testBit (Lib.ctz 64 y) = true ∧ ∀ k, k < Lib.ctz 64 y → y.testBit k = false := by
  obtain ⟨m, hm, hk⟩ := Lib.ctzFrom_spec 64 y (by omega) h
  have e : Lib.ctz 64 y = Lib.ctzFrom 64 y := by simp [Lib.ctz, h0]
  rw [e]
  generalize Lib.ctzFrom 64 y = c at *
  subst hm
  refine ⟨hk, ?_, fun k hk' => ?_⟩
  · rw [Nat.mul_comm, Nat.testBit_mul_two_pow]
    simp [Nat.testBit_zero]
  · rw [Nat.mul_comm, Nat.testBit_mul_two_pow]
    have : ¬ c ≤ k := by omega
    simp [this]
/-- The next span at or after moment m: where it begins and where it ends. -/
def begOf (x m : Nat) : Nat := m + Lib.ctz 64 (x / 2 ^ m)
def tillOf (x a : Nat) : Nat := a + Lib.ctz 64 (notW (x / 2 ^ a))
theorem div_lt (x m : Nat) (hx : x < 18446744073709551616) : x / 2 ^ m < 18446744073709551616 := Nat.lt_of_le_of_lt (Nat.div_le_self _ _) hx
theorem rest_none (x m : Nat) (hm : m ≤ 64) (h : x / 2 ^ m = 0) : rest (bitsOf x) m = [] := by
  refine rest_nil _ _ hm fun k h1 _ => ?_
  have := div_bit x m (k - m)
  rw [h, Nat.zero_testBit] at this
  rw [bitsOf, show k = m + (k - m) from by omega, ← this]
theorem rest_some (x m : Nat) (hx : x < 18446744073709551616) (hm : m ≤ 64) (h : x / 2 ^ m ≠ 0) :
    m ≤ begOf x m ∧ begOf x m < tillOf x (begOf x m) ∧ tillOf x (begOf x m) ≤ 64 ∧ Lib.ctz 64 (x / 2 ^ m) < 64 ∧ Lib.ctz 64 (notW (x / 2 ^ (begOf x m))) ≤ 64 ∧
    rest (bitsOf x) m = ((begOf x m : Int), (tillOf x (begOf x m) : Int)) :: rest (bitsOf x) (tillOf x (begOf x m)) := by
  obtain ⟨c1, c2, c3⟩ := ctz_bits _ h (div_lt x m hx)
  rw [div_bit] at c2
  have hb : x.testBit (begOf x m) = true := c2
  have hb64 : begOf x m < 64 := by
    rcases Nat.lt_or_ge (begOf x m) 64 with h | h
    · exact h
    · rw [Nat.testBit_lt_two_pow (Nat.lt_of_lt_of_le hx (Nat.pow_le_pow_right (n := 2) (by omega) h))] at hb
      cases hb
  generalize ha : begOf x m = a at *
  have hma : m ≤ a := by unfold begOf at ha; omega
  have hgap : ∀ k, m ≤ k → k < a → bitsOf x k = false := fun k h1 h2 => by
    have := c3 (k - m) (by unfold begOf at ha; omega)
    rw [div_bit, show m + (k - m) = k from by omega] at this
    exact this
  have hnb : ∀ k, a + k < 64 → (notW (x / 2 ^ a)).testBit k = !x.testBit (a + k) := fun k hk => by rw [notW_bit _ _ (div_lt x a hx) (by omega), div_bit]
  by_cases hz : notW (x / 2 ^ a) = 0
  · -- all ones: it can only be a = 0
    have hy : x / 2 ^ a = 18446744073709551615 := by
      have := div_lt x a hx
      unfold notW top64 at hz; omega
    have ha0 : a = 0 := by
      rcases Nat.eq_zero_or_pos a with h | h
      · exact h
      · have : x / 2 ^ a ≤ x / 2 ^ 1 := Nat.div_le_div_left (Nat.pow_le_pow_right (n := 2) (by omega) h) (by omega)
        omega
    have ht : tillOf x a = 64 := by
      unfold tillOf
      rw [hz, ha0]; rfl
    have hc : Lib.ctz 64 (notW (x / 2 ^ a)) = 64 := by rw [hz]; rfl
    refine ⟨hma, by omega, by omega, c1, by omega, ?_⟩
    rw [ht]
    refine rest_cons _ _ _ _ hma (by omega) (by omega) hgap (fun k h1 h2 => ?_) (by omega)
    have := hnb (k - a) (by omega)
    rw [hz, Nat.zero_testBit, show a + (k - a) = k from by omega] at this
    simpa [bitsOf] using this
  · obtain ⟨d1, d2, d3⟩ := ctz_bits _ hz (notW_lt _)
    have hd0 : 0 < Lib.ctz 64 (notW (x / 2 ^ a)) := by
      rcases Nat.eq_zero_or_pos (Lib.ctz 64 (notW (x / 2 ^ a))) with h | h
      · rw [h] at d2
        rw [hnb 0 (by omega), Nat.add_zero, hb] at d2
        cases d2
      · exact h
    have hle : tillOf x a ≤ 64 := by
      rcases Nat.lt_or_ge 64 (tillOf x a) with h | h
      · have h1 := d3 (64 - a) (by unfold tillOf at h; omega)
        have h2 : x / 2 ^ a < 2 ^ (64 - a) := by
          rw [Nat.div_lt_iff_lt_mul (Nat.two_pow_pos a), ← Nat.pow_add, show 64 - a + a = 64 from by omega]; exact hx
        have ha1 : 0 < a := by unfold tillOf at h; omega
        rw [notW_bit _ _ (div_lt x a hx) (by omega), Nat.testBit_lt_two_pow h2] at h1
        cases h1
      · exact h
    refine ⟨hma, by unfold tillOf; omega, hle, c1, by omega, ?_⟩
    refine rest_cons _ _ _ _ hma (by unfold tillOf; omega) hle hgap (fun k h1 h2 => ?_) (fun h => ?_)
    · have h3 := d3 (k - a) (by unfold tillOf at h2; omega)
      rw [hnb _ (by omega), show a + (k - a) = k from by omega] at h3
      simpa [bitsOf] using h3
    · have e : tillOf x a = a + Lib.ctz 64 (notW (x / 2 ^ a)) := rfl
      rw [hnb _ (by omega), ← e] at d2
      simpa [bitsOf] using d2
end Go.Proofs.YtdibijhaiaiifaaDoor
