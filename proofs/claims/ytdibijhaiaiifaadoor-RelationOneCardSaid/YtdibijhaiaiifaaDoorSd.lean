/- The walk of the library's rotate. -/
import Derived.Test.YtdibijhaiaiifaaDoorSc
namespace Go.Proofs.YtdibijhaiaiifaaDoor
open Go.RowKit
open Go.Sort
/-- What an exchange of two parts that lie apart does. -/
theorem swapN_get {a b : Nat} {d : Array RR} : ∀ n, (a + n ≤ b ∨ b + n ≤ a) → a + n ≤ d.size → b + n ≤ d.size → ∀ x, (swapN a b n d)[x]! = if a ≤ x ∧ x < a + n then d[b + (x - a)]! else if b ≤ x ∧ x < b + n then d[a + (x - b)]! else d[x]! := by
  intro n
  induction n with
  | zero => intro _ _ _ x; rw [if_neg (by omega), if_neg (by omega)]; rfl
  | succ n ih =>
    intro h ha hb x
    have ih := ih (by omega) (by omega) (by omega)
    rw [swapN, swp_get _ _ _ _ (by rw [size_swapN]; omega) (by rw [size_swapN]; omega), ih (a + n), ih (b + n), ih x]
    rw [if_neg (show ¬ (a ≤ a + n ∧ a + n < a + n) by omega), if_neg (show ¬ (b ≤ a + n ∧ a + n < b + n) by omega), if_neg (show ¬ (a ≤ b + n ∧ b + n < a + n) by omega), if_neg (show ¬ (b ≤ b + n ∧ b + n < b + n) by omega)]
    by_cases h1 : x = b + n
    · subst h1
      rw [if_pos rfl, if_neg (by omega), if_pos (by omega), show a + (b + n - b) = a + n by omega]
    · rw [if_neg h1]
      by_cases h2 : x = a + n
      · subst h2
        rw [if_pos rfl, if_pos (by omega), show b + (a + n - a) = b + n by omega]
      · rw [if_neg h2]
        by_cases h3 : a ≤ x ∧ x < a + n
        · rw [if_pos h3, if_pos (show a ≤ x ∧ x < a + (n + 1) by omega)]
        · rw [if_neg h3, if_neg (show ¬ (a ≤ x ∧ x < a + (n + 1)) by omega)]
          by_cases h4 : b ≤ x ∧ x < b + n
          · rw [if_pos h4, if_pos (show b ≤ x ∧ x < b + (n + 1) by omega)]
          · rw [if_neg h4, if_neg (show ¬ (b ≤ x ∧ x < b + (n + 1)) by omega)]
theorem swapN_perm {lo hi a b : Nat} {d : Array RR} (hh : hi ≤ d.size) (h1 : lo ≤ a) (h2 : lo ≤ b) : ∀ n, a + n ≤ hi → b + n ≤ hi → PermIn lo hi d (swapN a b n d) := by
  intro n
  induction n with
  | zero => intro _ _; exact permIn_refl _ _ _
  | succ n ih =>
    intro ha hb
    exact permIn_trans _ _ _ _ _ (ih (by omega) (by omega)) (swp_permIn _ _ _ _ _ (by omega) (by omega) (by omega) (by omega) (by rw [size_swapN]; exact hh))
/-- The two parts around m, i and j long, have changed places. -/
structure Rot (m i j : Nat) (d d' : Array RR) : Prop where
  size : d'.size = d.size
  left : ∀ t, t < j → d'[m - i + t]! = d[m + t]!
  right : ∀ t, t < i → d'[m - i + j + t]! = d[m - i + t]!
  out : ∀ x, x < m - i ∨ m + j ≤ x → d'[x]! = d[x]!
  perm : PermIn (m - i) (m + j) d d'
theorem rot_same {m i : Nat} {d : Array RR} (hi : i ≤ m) (hb : m + i ≤ d.size) : Rot m i i d (swapN (m - i) m i d) := by
  have g := swapN_get (a := m - i) (b := m) (d := d) i (by omega) (by omega) hb
  refine ⟨size_swapN _ _ _ _, fun t ht => ?_, fun t ht => ?_, fun x hx => ?_, swapN_perm hb (by omega) (by omega) _ (by omega) (by omega)⟩
  · rw [g, if_pos (by omega), show m + (m - i + t - (m - i)) = m + t by omega]
  · rw [g, if_neg (by omega), if_pos (by omega), show m - i + (m - i + i + t - m) = m - i + t by omega]
  · rw [g, if_neg (by omega), if_neg (by omega)]
theorem rot_big {m i j : Nat} {d d' : Array RR} (hi : i ≤ m) (hji : j < i) (hb : m + j ≤ d.size) (h : Rot m (i - j) j (swapN (m - i) m j d) d') : Rot m i j d d' := by
  have g := swapN_get (a := m - i) (b := m) (d := d) j (by omega) (by omega) hb
  refine ⟨h.size.trans (size_swapN _ _ _ _), fun t ht => ?_, fun t ht => ?_, fun x hx => ?_, permIn_trans _ _ _ _ _ (swapN_perm hb (by omega) (by omega) _ (by omega) (by omega)) (permIn_mono _ _ _ _ _ _ (by omega) (by omega) (by rw [size_swapN]; exact hb) h.perm)⟩
  · rw [h.out _ (by omega), g, if_pos (by omega), show m + (m - i + t - (m - i)) = m + t by omega]
  · by_cases h1 : t < j
    · have := h.left t h1
      rw [show m - (i - j) + t = m - i + j + t by omega] at this
      rw [this, g, if_neg (by omega), if_pos (by omega), show m - i + (m + t - m) = m - i + t by omega]
    · have := h.right (t - j) (by omega)
      rw [show m - (i - j) + j + (t - j) = m - i + j + t by omega, show m - (i - j) + (t - j) = m - i + t by omega] at this
      rw [this, g, if_neg (by omega), if_neg (by omega)]
  · rw [h.out _ (by omega), g, if_neg (by omega), if_neg (by omega)]
theorem rot_small {m i j : Nat} {d d' : Array RR} (hi : i ≤ m) (hij : i < j) (hb : m + j ≤ d.size) (h : Rot m i (j - i) (swapN (m - i) (m + j - i) i d) d') : Rot m i j d d' := by
  have g := swapN_get (a := m - i) (b := m + j - i) (d := d) i (by omega) (by omega) (by omega)
  refine ⟨h.size.trans (size_swapN _ _ _ _), fun t ht => ?_, fun t ht => ?_, fun x hx => ?_, permIn_trans _ _ _ _ _ (swapN_perm hb (by omega) (by omega) _ (by omega) (by omega)) (permIn_mono _ _ _ _ _ _ (by omega) (by omega) (by rw [size_swapN]; exact hb) h.perm)⟩
  · by_cases h1 : t < j - i
    · rw [h.left t h1, g, if_neg (by omega), if_neg (by omega)]
    · have := h.right (t - (j - i)) (by omega)
      rw [show m - i + (j - i) + (t - (j - i)) = m - i + t by omega, show m - i + (t - (j - i)) = m - i + (t - (j - i)) from rfl] at this
      rw [this, g, if_pos (by omega), show m + j - i + (m - i + (t - (j - i)) - (m - i)) = m + t by omega]
  · rw [h.out _ (by omega), g, if_neg (by omega), if_pos (by omega), show m - i + (m - i + j + t - (m + j - i)) = m - i + t by omega]
  · rw [h.out _ (by omega), g, if_neg (by omega), if_neg (by omega)]
set_option maxHeartbeats 4000000 in
set_option maxRecDepth 1000000 in
theorem rotate_any (wb : World) (G c a m b : Nat) (d : Array RR) (w : World) (S : St wb G d w) (ham : a < m) (hmb : m < b) (hb : b ≤ d.size) (hsz : d.size ≤ 1000000) :
    Calls Tryd.prog 156 #[.slice (some ⟨G, 0, none⟩) d.size c, .int .i64 a, .int .i64 m, .int .i64 b, .func (.func 73) #[] #[]] w fun e w' => e = .returned (.tuple #[]) ∧ ∃ d', St wb G d' w' ∧ Rot m (m - a) (b - m) d d' := by
  go_enter Tryd.func156, Tryd.ntmps156
  go_wp2
  go_loopg [10, 11] (b - a) (fun g vi vj wr => ∃ (i j : Nat) (dk : Array RR), vi = .int .i64 i ∧ vj = .int .i64 j ∧ 0 < i ∧ 0 < j ∧ i ≤ m ∧ m + j ≤ d.size ∧ i + j ≤ g ∧ dk.size = d.size ∧ St wb G dk wr ∧ Hid (∀ d', Rot m i j dk d' → Rot m (m - a) (b - m) d d'))
  case atStart => exact ⟨m - a, b - m, d, by congr 1; omega, by congr 1; omega, by omega, by omega, by omega, by omega, by omega, rfl, S, Lib.hid fun _ h => h⟩
  case round =>
    clear S
    obtain ⟨i, j, dk, rfl, rfl, hi0, hj0, him, hmj, hg, hs, S, HR⟩ := hrel
    have q1 : (m : Int) - i = ((m - i : Nat) : Int) := by omega
    by_cases hij : i = j
    · subst hij
      have hne : ((i : Int) != (i : Int)) = false := by simp
      have HX := Lib.hid (HR.out _ (rot_same (d := dk) him (by omega)))
      go_wp2_with fail
      have hC := swapRange_any wb G c (m - i) m i dk _ S (by omega) (by omega) (by omega) (by omega)
      rw [hs] at hC
      refine hC.mono ?_
      rintro e w1 ⟨rfl, S1⟩
      go_wp2
      go_end0
      exact ⟨rfl, _, S1, HX.out⟩
    · have hne : ((i : Int) != (j : Int)) = true := by rw [bne_iff_ne]; omega
      by_cases hlt : j < i
      · have hgt : (j : Int) < (i : Int) := by omega
        have HX := Lib.hid (fun d' h => HR.out d' (rot_big (d := dk) him hlt (by omega) h))
        go_wp2_with fail
        have hC := swapRange_any wb G c (m - i) m j dk _ S (by omega) (by omega) (by omega) (by omega)
        rw [hs] at hC
        refine hC.mono ?_
        rintro e w1 ⟨rfl, S1⟩
        go_wp2
        go_roundg (i - j + j)
        case measure => omega
        case rel => exact ⟨i - j, j, _, by congr 1; omega, rfl, by omega, hj0, by omega, by omega, Nat.le_refl _, by rw [size_swapN]; exact hs, S1, HX⟩
      · have hgt : ¬ (j : Int) < (i : Int) := by omega
        have hlt2 : i < j := by omega
        have q2 : (m : Int) + j - i = ((m + j - i : Nat) : Int) := by omega
        have HX := Lib.hid (fun d' h => HR.out d' (rot_small (d := dk) him hlt2 (by omega) h))
        go_wp2_with fail
        have hC := swapRange_any wb G c (m - i) (m + j - i) i dk _ S (by omega) (by omega) (by omega) (by omega)
        rw [hs] at hC
        refine hC.mono ?_
        rintro e w1 ⟨rfl, S1⟩
        go_wp2
        go_roundg (i + (j - i))
        case measure => omega
        case rel => exact ⟨i, j - i, _, rfl, by congr 1; omega, hi0, by omega, him, by omega, Nat.le_refl _, by rw [size_swapN]; exact hs, S1, HX⟩
end Go.Proofs.YtdibijhaiaiifaaDoor
