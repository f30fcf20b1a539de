/- The plain laws of the library's symMerge: binary search, the two short merges, the cross of the long one. -/
import Derived.Test.YtdibijhaiaiifaaDoorSd
namespace Go.Proofs.YtdibijhaiaiifaaDoor
open Go.Sort
/-- A search between lo and hi, at i and j. -/
structure Srch (P : Nat → Bool) (lo hi i j : Nat) : Prop where
  flo : lo ≤ i
  fij : i ≤ j
  fhi : j ≤ hi
  no : ∀ c, lo ≤ c → c < i → P c = false
  yes : ∀ c, j ≤ c → c < hi → P c = true
theorem Srch.start (P : Nat → Bool) {lo hi : Nat} (h : lo ≤ hi) : Srch P lo hi lo hi := ⟨Nat.le_refl _, h, Nat.le_refl _, fun c _ _ => by omega, fun c _ _ => by omega⟩
theorem Srch.up {P : Nat → Bool} {lo hi i j c : Nat} (h : Srch P lo hi i j) (hm : ∀ x y, lo ≤ x → x ≤ y → y < hi → P x = true → P y = true) (h1 : i ≤ c) (h2 : c < j) (hc : P c = false) : Srch P lo hi (c + 1) j := by
  refine ⟨by have := h.flo; omega, h2, h.fhi, fun x hx hxc => ?_, h.yes⟩
  cases e : P x with
  | false => rfl
  | true => rw [hm x c hx (by omega) (by have := h.fhi; omega) e] at hc; cases hc
theorem Srch.down {P : Nat → Bool} {lo hi i j c : Nat} (h : Srch P lo hi i j) (hm : ∀ x y, lo ≤ x → x ≤ y → y < hi → P x = true → P y = true) (h1 : i ≤ c) (h2 : c < j) (hc : P c = true) : Srch P lo hi i c :=
  ⟨h.flo, h1, by have := h.fhi; omega, h.no, fun x hx hxh => hm c x (by have := h.flo; omega) hx hxh hc⟩
section
variable {d d' d0 : Array RR} {a m b : Nat}
theorem lt_le {x y z : RR} (h : ltR x y = true) (k : ltR z y = false) : ltR x z = true := by
  cases e : ltR x z with
  | true => rfl
  | false => rw [swoR.ntrans _ _ _ e k] at h; cases h
theorem le_lt {x y z : RR} (h : ltR y x = false) (k : ltR y z = true) : ltR x z = true := by
  cases e : ltR x z with
  | true => rfl
  | false => rw [swoR.ntrans _ _ _ h e] at k; cases k
theorem asymm {x y : RR} (h : ltR x y = true) : ltR y x = false := by
  cases e : ltR y x with
  | false => rfl
  | true => have := swoR.trans _ _ _ h e; rw [swoR.irrefl] at this; cases this
theorem SortedIn.le {i j : Nat} (h : SortedIn ltR a b d) (h1 : a ≤ i) (h2 : i ≤ j) (h3 : j < b) : ltR d[j]! d[i]! = false := by
  rcases Nat.lt_or_eq_of_le h2 with h2 | rfl
  · exact h i j h1 h2 h3
  · exact swoR.irrefl _
/-- The first part is one row: it moves up, k steps done. -/
structure Up1 (a b k : Nat) (d d' : Array RR) : Prop where
  perm : PermIn a b d d'
  at_ : d'[k]! = d[a]!
  lo : ∀ x, a ≤ x → x < k → d'[x]! = d[x + 1]!
  hi : ∀ x, k < x → d'[x]! = d[x]!
theorem Up1.start (a b : Nat) (d : Array RR) : Up1 a b a d d := ⟨permIn_refl _ _ _, rfl, fun _ _ _ => by omega, fun _ _ => rfl⟩
theorem Up1.step {k : Nat} (h : Up1 a b k d d') (hk : a ≤ k) (hb : k + 1 < b) (hs : b ≤ d.size) : Up1 a b (k + 1) d (swp d' k (k + 1)) := by
  have hz : d'.size = d.size := h.perm.1
  refine ⟨permIn_trans _ _ _ _ _ h.perm (swp_permIn _ _ _ _ _ hk (by omega) (by omega) hb (by omega)), ?_, fun x h1 h2 => ?_, fun x h1 => ?_⟩
  · rw [swp_get _ _ _ _ (by omega) (by omega), if_pos rfl, h.at_]
  · rw [swp_get _ _ _ _ (by omega) (by omega), if_neg (by omega)]
    by_cases e : x = k
    · subst e; rw [if_pos rfl, h.hi _ (by omega)]
    · rw [if_neg e, h.lo x h1 (by omega)]
  · rw [swp_get _ _ _ _ (by omega) (by omega), if_neg (by omega), if_neg (by omega), h.hi x (by omega)]
theorem merged1 {i : Nat} (h2 : SortedIn ltR (a + 1) b d) (F : Srch (fun c => !ltR d[c]! d[a]!) (a + 1) b i i) (U : Up1 a b (i - 1) d d') : SortedIn ltR a b d' := by
  have F1 := F.flo
  have F2 := F.fhi
  have no : ∀ c, a + 1 ≤ c → c < i → ltR d[c]! d[a]! = true := fun c x y => by have := F.no c x y; simpa using this
  have yes : ∀ c, i ≤ c → c < b → ltR d[c]! d[a]! = false := fun c x y => by have := F.yes c x y; simpa using this
  intro x y hx hxy hy
  by_cases e1 : y < i - 1
  · rw [U.lo x hx (by omega), U.lo y (by omega) e1]; exact h2 _ _ (by omega) (by omega) (by omega)
  · by_cases e2 : y = i - 1
    · subst e2
      rw [U.at_, U.lo x hx hxy]; exact asymm (no _ (by omega) (by omega))
    · rw [U.hi y (by omega)]
      by_cases e3 : x < i - 1
      · rw [U.lo x hx e3]; exact h2 _ _ (by omega) (by omega) (by omega)
      · by_cases e4 : x = i - 1
        · subst e4; rw [U.at_]; exact yes _ (by omega) hy
        · rw [U.hi x (by omega)]; exact h2 _ _ (by omega) (by omega) (by omega)
/-- The second part is one row: it moves down to k. -/
structure Dn1 (a m k : Nat) (d d' : Array RR) : Prop where
  perm : PermIn a (m + 1) d d'
  at_ : d'[k]! = d[m]!
  lo : ∀ x, x < k → d'[x]! = d[x]!
  hi : ∀ x, k < x → x ≤ m → d'[x]! = d[x - 1]!
  out : ∀ x, m < x → d'[x]! = d[x]!
theorem Dn1.start (a m : Nat) (d : Array RR) : Dn1 a m m d d := ⟨permIn_refl _ _ _, rfl, fun _ _ => rfl, fun _ _ _ => by omega, fun _ _ => rfl⟩
theorem Dn1.step {k : Nat} (h : Dn1 a m (k + 1) d d') (hk : a ≤ k) (hb : k + 1 ≤ m) (hs : m + 1 ≤ d.size) : Dn1 a m k d (swp d' (k + 1) k) := by
  have hz : d'.size = d.size := h.perm.1
  refine ⟨permIn_trans _ _ _ _ _ h.perm (swp_permIn _ _ _ _ _ (by omega) (by omega) (by omega) (by omega) (by omega)), ?_, fun x h1 => ?_, fun x h1 h2 => ?_, fun x h1 => ?_⟩
  · rw [swp_get _ _ _ _ (by omega) (by omega), if_pos rfl, h.at_]
  · rw [swp_get _ _ _ _ (by omega) (by omega), if_neg (by omega), if_neg (by omega), h.lo x (by omega)]
  · rw [swp_get _ _ _ _ (by omega) (by omega), if_neg (by omega)]
    by_cases e : x = k + 1
    · subst e; rw [if_pos rfl, h.lo _ (by omega)]; rfl
    · rw [if_neg e, h.hi x (by omega) h2]
  · rw [swp_get _ _ _ _ (by omega) (by omega), if_neg (by omega), if_neg (by omega), h.out x h1]
theorem merged2 {i : Nat} (h1 : SortedIn ltR a m d) (F : Srch (fun c => ltR d[m]! d[c]!) a m i i) (U : Dn1 a m i d d') : SortedIn ltR a (m + 1) d' := by
  have F1 := F.flo
  have F2 := F.fhi
  intro x y hx hxy hy
  by_cases e1 : y < i
  · rw [U.lo x (by omega), U.lo y e1]; exact h1 _ _ hx hxy (by omega)
  · by_cases e2 : y = i
    · subst e2
      rw [U.at_, U.lo x hxy]; exact F.no x hx hxy
    · rw [U.hi y (by omega) (by omega)]
      by_cases e3 : x < i
      · rw [U.lo x e3]; exact SortedIn.le h1 hx (by omega) (by omega)
      · by_cases e4 : x = i
        · subst e4; rw [U.at_]; exact asymm (F.yes _ (by omega) (by omega))
        · rw [U.hi x (by omega) (by omega)]; exact h1 _ _ (by omega) (by omega) (by omega)
/-! ### the long merge -/
/-- Where the search of the long merge runs. -/
structure Lm (a m b mid lo hi : Nat) : Prop where
  am : a < m
  mb : m < b
  emid : mid = (a + b) / 2
  le : lo ≤ hi
  cs : (mid < m ∧ lo = mid + m - b ∧ hi = mid) ∨ (m ≤ mid ∧ lo = a ∧ hi = m)
theorem Lm.mono {mid lo hi : Nat} (L : Lm a m b mid lo hi) (h1 : SortedIn ltR a m d) (h2 : SortedIn ltR m b d) : ∀ x y, lo ≤ x → x ≤ y → y < hi → ltR d[mid + m - 1 - x]! d[x]! = true → ltR d[mid + m - 1 - y]! d[y]! = true := by
  obtain ⟨am, mb, e, le, cs⟩ := L
  intro x y hx hxy hy h
  have k1 : ltR d[y]! d[x]! = false := SortedIn.le h1 (by rcases cs with c | c <;> omega) hxy (by rcases cs with c | c <;> omega)
  have k2 : ltR d[mid + m - 1 - x]! d[mid + m - 1 - y]! = false := SortedIn.le h2 (by rcases cs with c | c <;> omega) (by omega) (by rcases cs with c | c <;> omega)
  exact lt_le (le_lt k2 h) k1
/-- Every row of the left half is at most every one of the right half. -/
def Cross (a mid b : Nat) (d : Array RR) : Prop := ∀ x y, a ≤ x → x < mid → mid ≤ y → y < b → ltR d[y]! d[x]! = false
theorem Lm.ends {mid lo hi s : Nat} (L : Lm a m b mid lo hi) (F : Srch (fun c => ltR d[mid + m - 1 - c]! d[c]!) lo hi s s) : a ≤ s ∧ s ≤ m ∧ m ≤ mid + m - s ∧ mid + m - s ≤ b ∧ s ≤ mid ∧ mid ≤ mid + m - s ∧ s ≤ mid + m := by
  have F1 := F.flo
  have F2 := F.fhi
  obtain ⟨am, mb, e, le, cs⟩ := L
  rcases cs with c | c <;> omega
/-- What the rotation leaves: where each row comes from. -/
structure Rtd (s m e : Nat) (d d' : Array RR) : Prop where
  left : ∀ t, t < e - m → d'[s + t]! = d[m + t]!
  right : ∀ t, t < m - s → d'[s + (e - m) + t]! = d[s + t]!
  out : ∀ x, x < s ∨ e ≤ x → d'[x]! = d[x]!
  perm : PermIn s e d d'
theorem Rtd.of {s e : Nat} (h1 : s < m) (h2 : m < e) (R : Rot m (m - s) (e - m) d d') : Rtd s m e d d' := by
  obtain ⟨_, l, r, o, p⟩ := R
  have e1 : m - (m - s) = s := by omega
  have e2 : m + (e - m) = e := by omega
  rw [e1] at l r o p
  rw [e2] at o p
  exact ⟨l, r, o, p⟩
theorem Rtd.none {s e : Nat} (h1 : s ≤ m) (h2 : m ≤ e) (h : ¬ (s < m ∧ m < e)) : Rtd s m e d d := by
  refine ⟨fun t ht => ?_, fun t ht => ?_, fun _ _ => rfl, permIn_refl _ _ _⟩
  · rw [show s = m by omega]
  · rw [show s + (e - m) + t = s + t by omega]
theorem Lm.cross {mid lo hi s : Nat} (L : Lm a m b mid lo hi) (h1 : SortedIn ltR a m d) (h2 : SortedIn ltR m b d) (F : Srch (fun c => ltR d[mid + m - 1 - c]! d[c]!) lo hi s s) (R : Rtd s m (mid + m - s) d d') :
    Cross a mid b d' ∧ SortedIn ltR a s d' ∧ SortedIn ltR s mid d' ∧ SortedIn ltR mid (mid + m - s) d' ∧ SortedIn ltR (mid + m - s) b d' := by
  obtain ⟨q1, q2, q3, q4, q5, q6, q7⟩ := L.ends F
  have F1 := F.flo
  have F2 := F.fhi
  obtain ⟨am, mb, e, le, cs⟩ := L
  obtain ⟨r1, r2, r3, _⟩ := R
  have g1 : ∀ x, s ≤ x → x < mid → d'[x]! = d[m + (x - s)]! := fun x k1 k2 => by have := r1 (x - s) (by omega); rwa [show s + (x - s) = x by omega] at this
  have g2 : ∀ x, mid ≤ x → x < mid + m - s → d'[x]! = d[s + (x - mid)]! := fun x k1 k2 => by have := r2 (x - mid) (by omega); rwa [show s + (mid + m - s - m) + (x - mid) = x by omega] at this
  refine ⟨fun x y hx hxm hmy hy => ?_, fun x y hx hxy hy => ?_, fun x y hx hxy hy => ?_, fun x y hx hxy hy => ?_, fun x y hx hxy hy => ?_⟩
  · by_cases e1 : x < s
    · rw [r3 x (.inl e1)]
      by_cases e2 : y < mid + m - s
      · rw [g2 y hmy e2]; exact h1 _ _ hx (by omega) (by omega)
      · rw [r3 y (.inr (by omega))]
        have k0 : lo ≤ s - 1 := by rcases cs with c | c <;> omega
        have k1 := F.no (s - 1) k0 (by omega)
        have k2 : ltR d[s - 1]! d[x]! = false := SortedIn.le h1 hx (by omega) (by omega)
        have k3 : ltR d[y]! d[mid + m - 1 - (s - 1)]! = false := SortedIn.le h2 (by omega) (by omega) hy
        exact swoR.ntrans _ _ _ k3 (swoR.ntrans _ _ _ k1 k2)
    · rw [g1 x (by omega) hxm]
      by_cases e2 : y < mid + m - s
      · rw [g2 y hmy e2]
        have k0 : s < hi := by rcases cs with c | c <;> omega
        have k1 := F.yes s (Nat.le_refl _) k0
        have k2 : ltR d[s + (y - mid)]! d[s]! = false := SortedIn.le h1 (by omega) (by omega) (by omega)
        have k3 : ltR d[mid + m - 1 - s]! d[m + (x - s)]! = false := SortedIn.le h2 (by omega) (by omega) (by omega)
        exact asymm (lt_le (le_lt k3 k1) k2)
      · rw [r3 y (.inr (by omega))]; exact h2 _ _ (by omega) (by omega) hy
  · rw [r3 x (.inl (by omega)), r3 y (.inl (by omega))]; exact h1 _ _ hx hxy (by omega)
  · rw [g1 x hx (by omega), g1 y (by omega) hy]; exact h2 _ _ (by omega) (by omega) (by omega)
  · rw [g2 x hx (by omega), g2 y (by omega) hy]; exact h1 _ _ (by omega) (by omega) (by omega)
  · rw [r3 x (.inr (by omega)), r3 y (.inr (by omega))]; exact h2 _ _ (by omega) (by omega) hy
theorem Cross.left {mid : Nat} (h : Cross a mid b d) (hb : b ≤ d.size) (hm : mid ≤ b) (p : PermIn a mid d d') : Cross a mid b d' := by
  intro x y hx hxm hmy hy
  rw [p.2.1 y (.inr hmy)]
  exact permIn_all _ _ _ _ (fun z => ltR d[y]! z = false) (by omega) p (fun i k1 k2 => h i y k1 k2 hmy hy) x hx hxm
theorem Cross.right {mid : Nat} (h : Cross a mid b d) (hb : b ≤ d.size) (p : PermIn mid b d d') : Cross a mid b d' := by
  intro x y hx hxm hmy hy
  rw [p.2.1 x (.inl hxm)]
  exact permIn_all _ _ _ _ (fun z => ltR z d[x]! = false) hb p (fun i k1 k2 => h x i hx hxm k1 k2) y hmy hy
theorem SortedIn.same (h : SortedIn ltR a b d) (e : ∀ x, a ≤ x → x < b → d'[x]! = d[x]!) : SortedIn ltR a b d' := by
  intro x y hx hxy hy
  rw [e x hx (by omega), e y (by omega) hy]
  exact h x y hx hxy hy
theorem SortedIn.short (h : b ≤ a + 1) : SortedIn ltR a b d := fun x y hx hxy hy => by omega
theorem Cross.sorted {mid : Nat} (h : Cross a mid b d) (h1 : SortedIn ltR a mid d) (h2 : SortedIn ltR mid b d) : SortedIn ltR a b d := by
  intro x y hx hxy hy
  by_cases e1 : y < mid
  · exact h1 x y hx hxy e1
  · by_cases e2 : x < mid
    · exact h x y hx e2 (by omega) hy
    · exact h2 x y (by omega) hxy hy
theorem half_none {s : Nat} (h1 : SortedIn ltR a s d) (h2 : SortedIn ltR s b d) (h : ¬ (a < s ∧ s < b)) (ha : a ≤ s) (hb : s ≤ b) : SortedIn ltR a b d := by
  by_cases e : a = s
  · subst e; exact h2
  · have : s = b := by omega
    subst this; exact h1
end
end Go.Proofs.YtdibijhaiaiifaaDoor
