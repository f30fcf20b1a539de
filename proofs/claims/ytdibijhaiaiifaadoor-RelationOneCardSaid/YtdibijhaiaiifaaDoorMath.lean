/- Sets of moments and their canonical lists of spans: the plain mathematics, no program in sight. -/
import Derived.Test.YtdibijhaiaiifaaDoorPop
namespace Go.Proofs.YtdibijhaiaiifaaDoor
abbrev Sp := Int × Int
def has (l : List Sp) (k : Int) : Bool := l.any fun s => decide (s.1 ≤ k) && decide (k < s.2)
/-- The moments of a list, as a set. -/
def setOf (l : List Sp) (k : Nat) : Bool := has l (k : Int)
/-- The loop that lists the maximal spans: n rounds to go, at moment m, f the beginning of the open span (or less than 0). -/
def runs (S : Nat → Bool) : Nat → Nat → Int → List Sp
  | 0, _, _ => []
  | n + 1, m, f =>
    if (decide (m < 64) && S m) = true then (if f < 0 then runs S n (m + 1) m else runs S n (m + 1) f)
    else (if f < 0 then runs S n (m + 1) f else (f, (m : Int)) :: runs S n (m + 1) (-1))
def canon (S : Nat → Bool) : List Sp := runs S 65 0 (-1)

theorem runs_in_new (S : Nat → Bool) (n m : Nat) (f : Int) (h : m < 64) (hs : S m = true) (hf : f < 0) : runs S (n + 1) m f = runs S n (m + 1) m := by simp [runs, h, hs, hf]
theorem runs_in_on (S : Nat → Bool) (n m : Nat) (f : Int) (h : m < 64) (hs : S m = true) (hf : 0 ≤ f) : runs S (n + 1) m f = runs S n (m + 1) f := by
  simp [runs, h, hs]; intro; omega
theorem runs_out (S : Nat → Bool) (n m : Nat) (f : Int) (hs : (decide (m < 64) && S m) = false) (hf : f < 0) : runs S (n + 1) m f = runs S n (m + 1) f := by
  rw [runs, if_neg (by simp [hs]), if_pos hf]
theorem runs_end (S : Nat → Bool) (n m : Nat) (f : Int) (hs : (decide (m < 64) && S m) = false) (hf : 0 ≤ f) : runs S (n + 1) m f = (f, (m : Int)) :: runs S n (m + 1) (-1) := by
  rw [runs, if_neg (by simp [hs]), if_neg (by omega)]

theorem runs_ext {S T : Nat → Bool} (h : ∀ k, k < 64 → S k = T k) : ∀ n m f, runs S n m f = runs T n m f := by
  intro n
  induction n with
  | zero => intros; rfl
  | succ n ih =>
    intro m f
    have e : (decide (m < 64) && S m) = (decide (m < 64) && T m) := by
      by_cases hm : m < 64 <;> simp [hm]; exact h m hm
    simp only [runs, e, ih]
theorem canon_ext {S T : Nat → Bool} (h : ∀ k, k < 64 → S k = T k) : canon S = canon T := runs_ext h _ _ _

theorem has_cons (s : Sp) (l : List Sp) (k : Int) : has (s :: l) k = ((decide (s.1 ≤ k) && decide (k < s.2)) || has l k) := rfl
theorem has_nil (k : Int) : has [] k = false := rfl
theorem has_append (a b : List Sp) (k : Int) : has (a ++ b) k = (has a k || has b k) := by simp [has, List.any_append]
theorem has_runs (S : Nat → Bool) (k : Int) : ∀ (n m : Nat) (f : Int), n + m = 65 → (n = 0 → f < 0) → f < m →
    has (runs S n m f) k = ((decide (0 ≤ f) && decide (f ≤ k) && decide (k < m)) || (decide ((m : Int) ≤ k) && decide (k < 64) && S k.toNat)) := by
  intro n
  induction n with
  | zero =>
    intro m f hm h0 _
    have := h0 rfl
    have e : m = 65 := by omega
    subst e
    have e1 : decide (0 ≤ f) = false := by simp; omega
    have e2 : (decide (((65 : Nat) : Int) ≤ k) && decide (k < 64)) = false := by simp; omega
    rw [e1, e2]; simp [runs, has_nil]
  | succ n ih =>
    intro m f hm _ hfm
    by_cases hin : m < 64 ∧ S m = true
    · obtain ⟨h64, hs⟩ := hin
      by_cases hf : f < 0
      · rw [runs_in_new S n m f h64 hs hf, ih (m + 1) m (by omega) (by omega) (by omega)]
        by_cases hk : k = m
        · subst hk
          have a : decide ((m : Int) < 64) = true := by simp; omega
          have b : decide ((m : Int) < (m : Int) + 1) = true := by simp; omega
          simp [hs, a, b]
        · have e1 : decide (0 ≤ f) = false := by simp; omega
          rw [e1]
          by_cases hk1 : (m : Int) + 1 ≤ k
          · have a : decide ((m : Int) ≤ k) = true := by simp; omega
            have b : decide (((m + 1 : Nat) : Int) ≤ k) = true := by simp; omega
            have c : decide (k < ((m + 1 : Nat) : Int)) = false := by simp; omega
            rw [a, b, c]; simp
          · have a : decide ((m : Int) ≤ k) = false := by simp; omega
            have b : decide (((m + 1 : Nat) : Int) ≤ k) = false := by simp; omega
            rw [a, b]; simp
      · rw [runs_in_on S n m f h64 hs (by omega), ih (m + 1) f (by omega) (by omega) (by omega)]
        have e1 : decide (0 ≤ f) = true := by simp; omega
        rw [e1]
        by_cases hk : k = m
        · subst hk
          have a : decide ((m : Int) < 64) = true := by simp; omega
          have b : decide ((m : Int) < (m : Int) + 1) = true := by simp; omega
          have c : decide (f ≤ (m : Int)) = true := by simp; omega
          simp [hs, a, b, c]
        · by_cases hk1 : (m : Int) + 1 ≤ k
          · have a : decide ((m : Int) ≤ k) = true := by simp; omega
            have b : decide (((m + 1 : Nat) : Int) ≤ k) = true := by simp; omega
            have c : decide (k < ((m + 1 : Nat) : Int)) = false := by simp; omega
            have d : decide (k < (m : Int)) = false := by simp; omega
            rw [a, b, c, d]
          · have a : decide ((m : Int) ≤ k) = false := by simp; omega
            have b : decide (((m + 1 : Nat) : Int) ≤ k) = false := by simp; omega
            have c : decide (k < ((m + 1 : Nat) : Int)) = true := by simp; omega
            have d : decide (k < (m : Int)) = true := by simp; omega
            rw [a, b, c, d]
    · have hs : (decide (m < 64) && S m) = false := by
        by_cases h64 : m < 64
        · simp [h64]; cases hh : S m
          · rfl
          · exact absurd ⟨h64, hh⟩ hin
        · simp [h64]
      have key : (decide (((m + 1 : Nat) : Int) ≤ k) && decide (k < 64) && S k.toNat) = (decide ((m : Int) ≤ k) && decide (k < 64) && S k.toNat) := by
        by_cases hk : k = m
        · subst hk
          have e : (decide ((m : Int) < 64)) = decide (m < 64) := by simp; omega
          have e2 : decide (((m + 1 : Nat) : Int) ≤ (m : Int)) = false := by simp; omega
          rw [e, e2]
          simp at hs ⊢
          intro h; exact (hs h)
        · have e : decide (((m + 1 : Nat) : Int) ≤ k) = decide ((m : Int) ≤ k) := by simp; omega
          rw [e]
      by_cases hf : f < 0
      · rw [runs_out S n m f hs hf, ih (m + 1) f (by omega) (by omega) (by omega), key]
        have e1 : decide (0 ≤ f) = false := by simp; omega
        rw [e1]; simp
      · rw [runs_end S n m f hs (by omega), has_cons, ih (m + 1) (-1) (by omega) (by omega) (by omega), key]
        have e1 : decide (0 ≤ f) = true := by simp; omega
        rw [e1]; simp
theorem has_canon (S : Nat → Bool) (k : Int) : has (canon S) k = (decide (0 ≤ k) && decide (k < 64) && S k.toNat) := by
  rw [canon, has_runs S k 65 0 (-1) (by omega) (by omega) (by omega)]; simp
theorem setOf_canon (S : Nat → Bool) (k : Nat) (hk : k < 64) : setOf (canon S) k = S k := by
  rw [setOf, has_canon]; simp; omega
theorem canon_inj {S T : Nat → Bool} : canon S = canon T ↔ ∀ k, k < 64 → S k = T k :=
  ⟨fun h k hk => by rw [← setOf_canon S k hk, ← setOf_canon T k hk, h], canon_ext⟩
theorem canon_again (S : Nat → Bool) : canon (setOf (canon S)) = canon S := canon_ext fun k hk => setOf_canon S k hk

/-- What is true of each span of a canonical list. -/
theorem runs_gaps (S : Nat → Bool) : ∀ (n m : Nat) (f : Int), n + m = 65 → (n = 0 → f < 0) → f < m →
    (0 ≤ f → (∀ k : Nat, f ≤ k → k < m → S k = true) ∧ (f = 0 ∨ S (f.toNat - 1) = false)) → (f < 0 → m = 0 ∨ m = 65 ∨ S (m - 1) = false) →
    ∀ s ∈ runs S n m f, 0 ≤ s.1 ∧ s.1 < s.2 ∧ s.2 ≤ 64 ∧ S s.1.toNat = true ∧ S (s.2.toNat - 1) = true ∧ (s.1 = 0 ∨ S (s.1.toNat - 1) = false) ∧ (s.2 = 64 ∨ S s.2.toNat = false) := by
  intro n
  induction n with
  | zero => intro m f _ _ _ _ _ s hs; simp [runs] at hs
  | succ n ih =>
    intro m f hm h0 hfm hopen hshut s hs
    by_cases hin : m < 64 ∧ S m = true
    · obtain ⟨h64, hsm⟩ := hin
      by_cases hf : f < 0
      · rw [runs_in_new S n m f h64 hsm hf] at hs
        refine ih (m + 1) m (by omega) (by omega) (by omega) (fun _ => ⟨fun k h1 h2 => ?_, ?_⟩) (by omega) s hs
        · have : k = m := by omega
          rw [this]; exact hsm
        · rcases hshut hf with h | h | h
          · left; omega
          · omega
          · right; simpa using h
      · rw [runs_in_on S n m f h64 hsm (by omega)] at hs
        obtain ⟨g1, g2⟩ := hopen (by omega)
        refine ih (m + 1) f (by omega) (by omega) (by omega) (fun _ => ⟨fun k h1 h2 => ?_, g2⟩) (by omega) s hs
        by_cases hk : k = m
        · rw [hk]; exact hsm
        · exact g1 k h1 (by omega)
    · have hso : (decide (m < 64) && S m) = false := by
        by_cases h64 : m < 64
        · simp [h64]; cases hh : S m
          · rfl
          · exact absurd ⟨h64, hh⟩ hin
        · simp [h64]
      have hno : m + 1 = 65 ∨ S (m + 1 - 1) = false := by
        by_cases h64 : m < 64
        · right; simpa [h64] using hso
        · left; omega
      by_cases hf : f < 0
      · rw [runs_out S n m f hso hf] at hs
        exact ih (m + 1) f (by omega) (by omega) (by omega) (by omega) (fun _ => .inr hno) s hs
      · rw [runs_end S n m f hso (by omega)] at hs
        rcases List.mem_cons.1 hs with rfl | hs
        · obtain ⟨g1, g2⟩ := hopen (by omega)
          refine ⟨by simp; omega, by simp; omega, by simp; omega, g1 f.toNat (by omega) (by omega), g1 _ (by simp; omega) (by simp; omega), g2, ?_⟩
          rcases hno with h | h
          · left; simp; omega
          · right; simpa using h
        · exact ih (m + 1) (-1) (by omega) (by omega) (by omega) (by omega) (fun _ => .inr hno) s hs
theorem canon_gaps (S : Nat → Bool) : ∀ s ∈ canon S, 0 ≤ s.1 ∧ s.1 < s.2 ∧ s.2 ≤ 64 ∧ S s.1.toNat = true ∧ S (s.2.toNat - 1) = true ∧ (s.1 = 0 ∨ S (s.1.toNat - 1) = false) ∧ (s.2 = 64 ∨ S s.2.toNat = false) :=
  runs_gaps S 65 0 (-1) (by omega) (by omega) (by omega) (by omega) (fun _ => .inl rfl)

/-- How many moments of the first n from m on begin a span; p: whether the moment ahead of m is in the set. -/
def starts (S : Nat → Bool) : Nat → Nat → Bool → Nat
  | 0, _, _ => 0
  | n + 1, m, p => (if S m && !p then 1 else 0) + starts S n (m + 1) (S m)
theorem runs_length (S : Nat → Bool) : ∀ (n m : Nat) (f : Int), n + 1 + m = 65 → (runs S (n + 1) m f).length = starts S n m (decide (0 ≤ f)) + (if 0 ≤ f then 1 else 0) := by
  intro n
  induction n with
  | zero =>
    intro m f hm
    have e : m = 64 := by omega
    subst e
    by_cases hf : f < 0
    · rw [runs_out S 0 64 f (by simp) hf]; simp [runs, starts]; omega
    · rw [runs_end S 0 64 f (by simp) (by omega)]; simp [runs, starts]; omega
  | succ n ih =>
    intro m f hm
    have h64 : m < 64 := by omega
    cases hs : S m
    · by_cases hf : f < 0
      · rw [runs_out S (n + 1) m f (by simp [hs]) hf, ih _ _ (by omega)]
        have e1 : decide (0 ≤ f) = false := by simp; omega
        rw [e1]; simp [starts, hs]
      · rw [runs_end S (n + 1) m f (by simp [hs]) (by omega), List.length_cons, ih _ _ (by omega)]
        have e1 : decide (0 ≤ f) = true := by simp; omega
        rw [e1]; simp [starts, hs]; omega
    · by_cases hf : f < 0
      · rw [runs_in_new S (n + 1) m f h64 hs hf, ih _ _ (by omega)]
        have e1 : decide (0 ≤ f) = false := by simp; omega
        have e2 : decide (0 ≤ (m : Int)) = true := by simp
        have e3 : ¬ 0 ≤ f := by omega
        rw [e1, e2]; simp [starts, hs, e3]; omega
      · rw [runs_in_on S (n + 1) m f h64 hs (by omega), ih _ _ (by omega)]
        have e1 : decide (0 ≤ f) = true := by simp; omega
        rw [e1]; simp [starts, hs]
theorem canon_length (S : Nat → Bool) : (canon S).length = starts S 64 0 false := by
  have := runs_length S 64 0 (-1) (by omega)
  simpa [canon] using this
theorem starts_le (S : Nat → Bool) : ∀ n m p, 2 * starts S n m p + (if p then 1 else 0) ≤ n + 1 := by
  intro n
  induction n with
  | zero => intro m p; cases p <;> simp [starts]
  | succ n ih =>
    intro m p
    have := ih (m + 1) (S m)
    cases hs : S m <;> cases p <;> simp [starts, hs] at this ⊢ <;> omega
theorem canon_le (S : Nat → Bool) : (canon S).length ≤ 32 := by
  have := starts_le S 64 0 false
  rw [canon_length]; simp at this; omega

/-! ### The listing by gaps and runs of a word -/
theorem runs_skip (S : Nat → Bool) : ∀ d n m, d ≤ n → n + m = 65 → (∀ k, m ≤ k → k < m + d → k < 64 → S k = false) → runs S n m (-1) = runs S (n - d) (m + d) (-1) := by
  intro d
  induction d with
  | zero => intros; simp
  | succ d ih =>
    intro n m hd hm h
    obtain ⟨n, rfl⟩ : ∃ n', n = n' + 1 := ⟨n - 1, by omega⟩
    rw [runs_out S n m (-1) (by by_cases h64 : m < 64 <;> simp [h64]; exact h m (by omega) (by omega) h64) (by omega), ih n (m + 1) (by omega) (by omega) (fun k h1 h2 h3 => h k (by omega) (by omega) h3)]
    congr 1 <;> omega
theorem runs_over (S : Nat → Bool) : ∀ d n m (f : Int), d ≤ n → n + m = 65 → 0 ≤ f → m + d ≤ 64 → (∀ k, m ≤ k → k < m + d → S k = true) → runs S n m f = runs S (n - d) (m + d) f := by
  intro d
  induction d with
  | zero => intros; simp
  | succ d ih =>
    intro n m f hd hm hf hle h
    obtain ⟨n, rfl⟩ : ∃ n', n = n' + 1 := ⟨n - 1, by omega⟩
    rw [runs_in_on S n m f (by omega) (h m (by omega) (by omega)) hf, ih n (m + 1) f (by omega) (by omega) hf (by omega) (fun k h1 h2 => h k (by omega) (by omega))]
    congr 1 <;> omega
/-- What is left of the list at moment m, no span open. -/
def rest (S : Nat → Bool) (m : Nat) : List Sp := runs S (65 - m) m (-1)
theorem rest_zero (S : Nat → Bool) : rest S 0 = canon S := rfl
theorem rest_nil (S : Nat → Bool) (m : Nat) (hm : m ≤ 64) (h : ∀ k, m ≤ k → k < 64 → S k = false) : rest S m = [] := by
  unfold rest
  rw [runs_skip S (65 - m) (65 - m) m (by omega) (by omega) (fun k h1 _ h3 => h k h1 h3), Nat.sub_self]; rfl
theorem rest_cons (S : Nat → Bool) (m a t : Nat) (h1 : m ≤ a) (h2 : a < t) (h3 : t ≤ 64) (hgap : ∀ k, m ≤ k → k < a → S k = false) (hrun : ∀ k, a ≤ k → k < t → S k = true) (hend : t < 64 → S t = false) :
    rest S m = ((a : Int), (t : Int)) :: rest S t := by
  unfold rest
  rw [runs_skip S (a - m) (65 - m) m (by omega) (by omega) (fun k g1 g2 _ => hgap k g1 (by omega))]
  have e1 : 65 - m - (a - m) = (64 - a) + 1 := by omega
  have e2 : m + (a - m) = a := by omega
  rw [e1, e2, runs_in_new S (64 - a) a (-1) (by omega) (hrun a (by omega) h2) (by omega), runs_over S (t - a - 1) (64 - a) (a + 1) a (by omega) (by omega) (by omega) (by omega) (fun k g1 g2 => hrun k (by omega) (by omega))]
  have e3 : 64 - a - (t - a - 1) = (64 - t) + 1 := by omega
  have e4 : a + 1 + (t - a - 1) = t := by omega
  have hno : (decide (t < 64) && S t) = false := by by_cases h : t < 64 <;> simp [h]; exact hend h
  rw [e3, e4, runs_end S (64 - t) t a hno (by omega)]
  have e5 : 65 - t = (64 - t) + 1 := by omega
  rw [e5, runs_out S (64 - t) t (-1) hno (by omega)]
end Go.Proofs.YtdibijhaiaiifaaDoor
