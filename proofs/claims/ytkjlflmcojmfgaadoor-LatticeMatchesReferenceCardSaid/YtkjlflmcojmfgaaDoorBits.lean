/- Sets of small numbers as the bits of a byte. -/
import Derived.Laws.BitsAllLaws
namespace Go.Proofs.YtkjlflmcojmfgaaDoor
/-- x's bits are S. -/
def Bits (x : Int) (S : Nat → Bool) : Prop := 0 ≤ x ∧ x < 256 ∧ ∀ b, x.toNat.testBit b = (decide (b < 8) && S b)
theorem Bits.congr {x : Int} {S T : Nat → Bool} (h : Bits x S) (e : ∀ b, b < 8 → S b = T b) : Bits x T :=
  ⟨h.1, h.2.1, fun b => by
    rw [h.2.2 b]
    by_cases hb : b < 8
    · simp [hb, e b hb]
    · simp [hb]⟩
theorem Bits.inj {x y : Int} {S : Nat → Bool} (h : Bits x S) (k : Bits y S) : x = y := by
  have e : x.toNat = y.toNat := Nat.eq_of_testBit_eq fun b => by rw [h.2.2, k.2.2]
  have := h.1; have := k.1; omega
theorem lt8 {n : Nat} (h : n < 256) {b : Nat} (hb : ¬ b < 8) : n.testBit b = false := by
  refine Nat.testBit_lt_two_pow (Nat.lt_of_lt_of_le h ?_)
  have : (2 : Nat) ^ 8 ≤ 2 ^ b := Nat.pow_le_pow_right (by decide) (by omega)
  simpa using this
theorem Bits.of {n : Nat} {S : Nat → Bool} (hn : n < 256) (h : ∀ b, b < 8 → n.testBit b = S b) : Bits (n : Int) S :=
  ⟨by omega, by omega, fun b => by
    rw [Int.toNat_natCast]
    by_cases hb : b < 8
    · simp [hb, h b hb]
    · simp [hb, lt8 hn hb]⟩
theorem Bits.at_ {x : Int} {S : Nat → Bool} (h : Bits x S) {b : Nat} (hb : b < 8) : x.toNat.testBit b = S b := by
  rw [h.2.2]; simp [hb]
theorem Bits.test {x : Int} {S : Nat → Bool} (h : Bits x S) {b : Nat} (hb : b < 8) : bits .and .u8 (x / 2 ^ b) 1 = if S b = true then 1 else 0 := by
  obtain ⟨n, rfl⟩ := Int.eq_ofNat_of_zero_le h.1
  have hn : n < 256 := by have := h.2.1; omega
  have e : ((n : Int) / 2 ^ b) = ((n / 2 ^ b : Nat) : Int) := by simp
  have hle : n / 2 ^ b ≤ n := Nat.div_le_self _ _
  have h1 := h.at_ hb
  rw [Int.toNat_natCast, Nat.testBit_eq_decide_div_mod_eq] at h1
  rw [e]
  generalize n / 2 ^ b = m at *
  rw [u8_and _ _ (by omega) (by omega) (by decide) (by decide)]
  rw [Int.toNat_natCast, show (1 : Int).toNat = 1 from rfl, Nat.and_one_is_mod]
  cases hS : S b
  · rw [hS] at h1
    have h1 := of_decide_eq_false h1
    rw [if_neg (by simp)]; omega
  · rw [hS] at h1
    have h1 := of_decide_eq_true h1
    rw [if_pos rfl]; omega
theorem Bits.or {x y : Int} {S T : Nat → Bool} (h : Bits x S) (k : Bits y T) : Bits (bits .or .u8 x y) (fun b => S b || T b) := by
  rw [u8_or _ _ h.1 h.2.1 k.1 k.2.1]
  refine Bits.of (Nat.or_lt_two_pow (n := 8) (by have := h.1; have := h.2.1; omega) (by have := k.1; have := k.2.1; omega)) fun b hb => ?_
  rw [Nat.testBit_or, h.at_ hb, k.at_ hb]
theorem Bits.and {x y : Int} {S T : Nat → Bool} (h : Bits x S) (k : Bits y T) : Bits (bits .and .u8 x y) (fun b => S b && T b) := by
  rw [u8_and _ _ h.1 h.2.1 k.1 k.2.1]
  refine Bits.of (Nat.lt_of_le_of_lt Nat.and_le_left (by have := h.1; have := h.2.1; omega)) fun b hb => ?_
  rw [Nat.testBit_and, h.at_ hb, k.at_ hb]
theorem Bits.andNot {x y : Int} {S T : Nat → Bool} (h : Bits x S) (k : Bits y T) : Bits (bits .andNot .u8 x y) (fun b => S b && !T b) := by
  rw [u8_andNot _ _ h.1 h.2.1 k.1 k.2.1]
  refine Bits.of (Nat.lt_of_le_of_lt Nat.and_le_left (by have := h.1; have := h.2.1; omega)) fun b hb => ?_
  rw [Nat.testBit_and, h.at_ hb]
  have hy : y.toNat < 256 := by have := k.1; have := k.2.1; omega
  have : 255 - y.toNat = 2 ^ 8 - (y.toNat + 1) := by omega
  rw [this, Nat.testBit_two_pow_sub_succ (by omega), k.at_ hb]
  simp [hb]
theorem Bits.zero : Bits 0 (fun _ => false) := ⟨by decide, by decide, fun b => by simp⟩
theorem Bits.isZero {x : Int} {S : Nat → Bool} (h : Bits x S) : x = 0 ↔ ∀ b, b < 8 → S b = false := by
  constructor
  · intro e b hb
    rw [← h.at_ hb, e]; simp
  · intro e
    exact h.inj (Bits.zero.congr fun b hb => (e b hb).symm)
theorem Bits.one {a : Nat} (ha : a < 8) : Bits ((2 ^ a : Nat) : Int) (fun b => decide (a = b)) :=
  Bits.of (by have : 2 ^ a ≤ 2 ^ 7 := Nat.pow_le_pow_right (by decide) (by omega); omega) fun b _ => Nat.testBit_two_pow
theorem Bits.all {n : Nat} (hn : n ≤ 8) : Bits ((2 ^ n - 1 : Nat) : Int) (fun b => decide (b < n)) :=
  Bits.of (by have : 2 ^ n ≤ 2 ^ 8 := Nat.pow_le_pow_right (by decide) hn; omega) fun b _ => Nat.testBit_two_pow_sub_one ..
/-- The least bit. -/
def low (S : Nat → Bool) (a : Nat) : Prop := S a = true ∧ ∀ b, b < a → S b = false
theorem Bits.less {x : Int} {S : Nat → Bool} (h : Bits x S) {a : Nat} (ha : a < 8) (hl : low S a) : Bits (bits .and .u8 x (x - 1)) (fun b => S b && !decide (b = a)) := by
  obtain ⟨n, rfl⟩ := Int.eq_ofNat_of_zero_le h.1
  have hn : n < 256 := by have := h.2.1; omega
  have key : ∀ n, n < 256 → ∀ a, a < 8 → n.testBit a = true → (∀ b, b < a → n.testBit b = false) → ∀ b, b < 8 → (n &&& (n - 1)).testBit b = (n.testBit b && !decide (b = a)) := by decide +kernel
  have hpos : 0 < n := by
    rcases Nat.eq_zero_or_pos n with e | e
    · subst e
      have := h.at_ ha
      rw [hl.1] at this; simp at this
    · exact e
  rw [show ((n : Int) - 1) = ((n - 1 : Nat) : Int) by omega, u8_and _ _ (by omega) (by omega) (by omega) (by omega), Int.toNat_natCast, Int.toNat_natCast]
  refine Bits.of (Nat.lt_of_le_of_lt Nat.and_le_left hn) fun b hb => ?_
  have h1 := h.at_ ha
  have h2 := h.at_ hb
  rw [Int.toNat_natCast] at h1 h2
  rw [key n hn a ha (by rw [h1, hl.1]) (fun c hc => by have := h.at_ (b := c) (by omega); rw [Int.toNat_natCast] at this; rw [this, hl.2 c hc]) b hb, h2]
theorem low_of : ∀ (k : Nat) (S : Nat → Bool), (∃ b, b < k ∧ S b = true) → ∃ a, a < k ∧ low S a
  | 0, _, h => by obtain ⟨b, hb, _⟩ := h; omega
  | k + 1, S, h => by
    by_cases e : ∃ b, b < k ∧ S b = true
    · obtain ⟨a, ha, hl⟩ := low_of k S e
      exact ⟨a, by omega, hl⟩
    · obtain ⟨b, hb, hs⟩ := h
      have : b = k := by
        rcases Nat.lt_or_ge b k with hlt | _
        · exact absurd ⟨b, hlt, hs⟩ e
        · omega
      subst this
      exact ⟨b, by omega, hs, fun c hc => by
        cases hS : S c
        · rfl
        · exact absurd ⟨c, hc, hS⟩ e⟩
end Go.Proofs.YtkjlflmcojmfgaaDoor
