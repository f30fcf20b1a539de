/- Parts Se, Sf: words, walks and laws that the claims of this seat share. -/
import Derived.Test.YtdibijhaiaiifaaDoorJ6
/- The plain laws of the library's symMerge: binary search, the two short merges, the cross of the long one. -/
namespace Go.Proofs.YtdibijhaiaiifaaDoor
open Go.Sort
/-- A search between lo and hi, at i and j. -/
structure Srch (P : Nat → Bool) (lo hi i j : Nat) : Prop where
  flo : lo ≤ i
  fij : i ≤ j
  fhi : j ≤ hi
  no : ∀ c, lo ≤ c → c < i → P c = false
  yes : ∀ c, j ≤ c → c < hi → P c = true
theorem Srch.start (P : Nat → Bool) {lo hi : Nat} (h : lo ≤ hi) : Srch P lo hi lo hi := ⟨Nat.le_refl _, h, Nat.le_refl _, fun c _ _ => by omega, fun c _ _ => by omega⟩
theorem Srch.up {P : Nat → Bool} {lo hi i j c : Nat} (h : Srch P lo hi i j) (hm : ∀ x y, lo ≤ x → x ≤ y → y < hi → P x = true → P y = true) (h1 : i ≤ c) (h2 : c < j) (hc : P c = false) : Srch P lo hi (c + 1) j := by
  refine ⟨by have := h.flo; omega, h2, h.fhi, fun x hx hxc => ?_, h.yes⟩
  cases e : P x with
  | false => rfl
  | true => rw [hm x c hx (by omega) (by have := h.fhi; omega) e] at hc; cases hc
theorem Srch.down {P : Nat → Bool} {lo hi i j c : Nat} (h : Srch P lo hi i j) (hm : ∀ x y, lo ≤ x → x ≤ y → y < hi → P x = true → P y = true) (h1 : i ≤ c) (h2 : c < j) (hc : P c = true) : Srch P lo hi i c :=
  ⟨h.flo, h1, by have := h.fhi; omega, h.no, fun x hx hxh => hm c x (by have := h.flo; omega) hx hxh hc⟩
section
variable {d d' d0 : Array RR} {a m b : Nat}
theorem lt_le {x y z : RR} (h : ltR x y = true) (k : ltR z y = false) : ltR x z = true := by
  cases e : ltR x z with
  | true => rfl
  | false => rw [swoR.ntrans _ _ _ e k] at h; cases h
theorem le_lt {x y z : RR} (h : ltR y x = false) (k : ltR y z = true) : ltR x z = true := by
  cases e : ltR x z with
  | true => rfl
  | false => rw [swoR.ntrans _ _ _ h e] at k; cases k
theorem asymm {x y : RR} (h : ltR x y = true) : ltR y x = false := by
  cases e : ltR y x with
  | false => rfl
  | true => have := swoR.trans _ _ _ h e; rw [swoR.irrefl] at this; cases this
theorem SortedIn.le {i j : Nat} (h : SortedIn ltR a b d) (h1 : a ≤ i) (h2 : i ≤ j) (h3 : j < b) : ltR d[j]! d[i]! = false := by
  rcases Nat.lt_or_eq_of_le h2 with h2 | rfl
  · exact h i j h1 h2 h3
  · exact swoR.irrefl _
/-- The first part is one row: it moves up, k steps done. -/
structure Up1 (a b k : Nat) (d d' : Array RR) : Prop where
  perm : PermIn a b d d'
  at_ : d'[k]! = d[a]!
  lo : ∀ x, a ≤ x → x < k → d'[x]! = d[x + 1]!
  hi : ∀ x, k < x → d'[x]! = d[x]!
theorem Up1.start (a b : Nat) (d : Array RR) : Up1 a b a d d := ⟨permIn_refl _ _ _, rfl, fun _ _ _ => by omega, fun _ _ => rfl⟩
theorem Up1.step {k : Nat} (h : Up1 a b k d d') (hk : a ≤ k) (hb : k + 1 < b) (hs : b ≤ d.size) : Up1 a b (k + 1) d (swp d' k (k + 1)) := by
  have hz : d'.size = d.size := h.perm.1
  refine ⟨permIn_trans _ _ _ _ _ h.perm (swp_permIn _ _ _ _ _ hk (by omega) (by omega) hb (by omega)), ?_, fun x h1 h2 => ?_, fun x h1 => ?_⟩
  · rw [swp_get _ _ _ _ (by omega) (by omega), if_pos rfl, h.at_]
  · rw [swp_get _ _ _ _ (by omega) (by omega), if_neg (by omega)]
    by_cases e : x = k
    · subst e; rw [if_pos rfl, h.hi _ (by omega)]
    · rw [if_neg e, h.lo x h1 (by omega)]
  · rw [swp_get _ _ _ _ (by omega) (by omega), if_neg (by omega), if_neg (by omega), h.hi x (by omega)]
theorem merged1 {i : Nat} (h2 : SortedIn ltR (a + 1) b d) (F : Srch (fun c => !ltR d[c]! d[a]!) (a + 1) b i i) (U : Up1 a b (i - 1) d d') : SortedIn ltR a b d' := by
  have F1 := F.flo
  have F2 := F.fhi
  have no : ∀ c, a + 1 ≤ c → c < i → ltR d[c]! d[a]! = true := fun c x y => by have := F.no c x y; simpa using this
  have yes : ∀ c, i ≤ c → c < b → ltR d[c]! d[a]! = false := fun c x y => by have := F.yes c x y; simpa using this
  intro x y hx hxy hy
  by_cases e1 : y < i - 1
  · rw [U.lo x hx (by omega), U.lo y (by omega) e1]; exact h2 _ _ (by omega) (by omega) (by omega)
  · by_cases e2 : y = i - 1
    · subst e2
      rw [U.at_, U.lo x hx hxy]; exact asymm (no _ (by omega) (by omega))
    · rw [U.hi y (by omega)]
      by_cases e3 : x < i - 1
      · rw [U.lo x hx e3]; exact h2 _ _ (by omega) (by omega) (by omega)
      · by_cases e4 : x = i - 1
        · subst e4; rw [U.at_]; exact yes _ (by omega) hy
        · rw [U.hi x (by omega)]; exact h2 _ _ (by omega) (by omega) (by omega)
/-- The second part is one row: it moves down to k. -/
structure Dn1 (a m k : Nat) (d d' : Array RR) : Prop where
  perm : PermIn a (m + 1) d d'
  at_ : d'[k]! = d[m]!
  lo : ∀ x, x < k → d'[x]! = d[x]!
  hi : ∀ x, k < x → x ≤ m → d'[x]! = d[x - 1]!
  out : ∀ x, m < x → d'[x]! = d[x]!
theorem Dn1.start (a m : Nat) (d : Array RR) : Dn1 a m m d d := ⟨permIn_refl _ _ _, rfl, fun _ _ => rfl, fun _ _ _ => by omega, fun _ _ => rfl⟩
theorem Dn1.step {k : Nat} (h : Dn1 a m (k + 1) d d') (hk : a ≤ k) (hb : k + 1 ≤ m) (hs : m + 1 ≤ d.size) : Dn1 a m k d (swp d' (k + 1) k) := by
  have hz : d'.size = d.size := h.perm.1
  refine ⟨permIn_trans _ _ _ _ _ h.perm (swp_permIn _ _ _ _ _ (by omega) (by omega) (by omega) (by omega) (by omega)), ?_, fun x h1 => ?_, fun x h1 h2 => ?_, fun x h1 => ?_⟩
  · rw [swp_get _ _ _ _ (by omega) (by omega), if_pos rfl, h.at_]
  · rw [swp_get _ _ _ _ (by omega) (by omega), if_neg (by omega), if_neg (by omega), h.lo x (by omega)]
  · rw [swp_get _ _ _ _ (by omega) (by omega), if_neg (by omega)]
    by_cases e : x = k + 1
    · subst e; rw [if_pos rfl, h.lo _ (by omega)]; rfl
    · rw [if_neg e, h.hi x (by omega) h2]
  · rw [swp_get _ _ _ _ (by omega) (by omega), if_neg (by omega), if_neg (by omega), h.out x h1]
theorem merged2 {i : Nat} (h1 : SortedIn ltR a m d) (F : Srch (fun c => ltR d[m]! d[c]!) a m i i) (U : Dn1 a m i d d') : SortedIn ltR a (m + 1) d' := by
  have F1 := F.flo
  have F2 := F.fhi
  intro x y hx hxy hy
  by_cases e1 : y < i
  · rw [U.lo x (by omega), U.lo y e1]; exact h1 _ _ hx hxy (by omega)
  · by_cases e2 : y = i
    · subst e2
      rw [U.at_, U.lo x hxy]; exact F.no x hx hxy
    · rw [U.hi y (by omega) (by omega)]
      by_cases e3 : x < i
      · rw [U.lo x e3]; exact SortedIn.le h1 hx (by omega) (by omega)
      · by_cases e4 : x = i
        · subst e4; rw [U.at_]; exact asymm (F.yes _ (by omega) (by omega))
        · rw [U.hi x (by omega) (by omega)]; exact h1 _ _ (by omega) (by omega) (by omega)
/-! ### the long merge -/
/-- Where the search of the long merge runs. -/
structure Lm (a m b mid lo hi : Nat) : Prop where
  am : a < m
  mb : m < b
  emid : mid = (a + b) / 2
  le : lo ≤ hi
  cs : (mid < m ∧ lo = mid + m - b ∧ hi = mid) ∨ (m ≤ mid ∧ lo = a ∧ hi = m)
theorem Lm.mono {mid lo hi : Nat} (L : Lm a m b mid lo hi) (h1 : SortedIn ltR a m d) (h2 : SortedIn ltR m b d) : ∀ x y, lo ≤ x → x ≤ y → y < hi → ltR d[mid + m - 1 - x]! d[x]! = true → ltR d[mid + m - 1 - y]! d[y]! = true := by
  obtain ⟨am, mb, e, le, cs⟩ := L
  intro x y hx hxy hy h
  have k1 : ltR d[y]! d[x]! = false := SortedIn.le h1 (by rcases cs with c | c <;> omega) hxy (by rcases cs with c | c <;> omega)
  have k2 : ltR d[mid + m - 1 - x]! d[mid + m - 1 - y]! = false := SortedIn.le h2 (by rcases cs with c | c <;> omega) (by omega) (by rcases cs with c | c <;> omega)
  exact lt_le (le_lt k2 h) k1
/-- Every row of the left half is at most every one of the right half. -/
def Cross (a mid b : Nat) (d : Array RR) : Prop := ∀ x y, a ≤ x → x < mid → mid ≤ y → y < b → ltR d[y]! d[x]! = false
theorem Lm.ends {mid lo hi s : Nat} (L : Lm a m b mid lo hi) (F : Srch (fun c => ltR d[mid + m - 1 - c]! d[c]!) lo hi s s) : a ≤ s ∧ s ≤ m ∧ m ≤ mid + m - s ∧ mid + m - s ≤ b ∧ s ≤ mid ∧ mid ≤ mid + m - s ∧ s ≤ mid + m := by
  have F1 := F.flo
  have F2 := F.fhi
  obtain ⟨am, mb, e, le, cs⟩ := L
  rcases cs with c | c <;> omega
/-- What the rotation leaves: where each row comes from. -/
structure Rtd (s m e : Nat) (d d' : Array RR) : Prop where
  left : ∀ t, t < e - m → d'[s + t]! = d[m + t]!
  right : ∀ t, t < m - s → d'[s + (e - m) + t]! = d[s + t]!
  out : ∀ x, x < s ∨ e ≤ x → d'[x]! = d[x]!
  perm : PermIn s e d d'
theorem Rtd.of {s e : Nat} (h1 : s < m) (h2 : m < e) (R : Rot m (m - s) (e - m) d d') : Rtd s m e d d' := by
  obtain ⟨_, l, r, o, p⟩ := R
  have e1 : m - (m - s) = s := by omega
  have e2 : m + (e - m) = e := by omega
  rw [e1] at l r o p
  rw [e2] at o p
  exact ⟨l, r, o, p⟩
theorem Rtd.none {s e : Nat} (h1 : s ≤ m) (h2 : m ≤ e) (h : ¬ (s < m ∧ m < e)) : Rtd s m e d d := by
  refine ⟨fun t ht => ?_, fun t ht => ?_, fun _ _ => rfl, permIn_refl _ _ _⟩
  · rw [show s = m by omega]
  · rw [show s + (e - m) + t = s + t by omega]
theorem Lm.cross {mid lo hi s : Nat} (L : Lm a m b mid lo hi) (h1 : SortedIn ltR a m d) (h2 : SortedIn ltR m b d) (F : Srch (fun c => ltR d[mid + m - 1 - c]! d[c]!) lo hi s s) (R : Rtd s m (mid + m - s) d d') :
    Cross a mid b d' ∧ SortedIn ltR a s d' ∧ SortedIn ltR s mid d' ∧ SortedIn ltR mid (mid + m - s) d' ∧ SortedIn ltR (mid + m - s) b d' := by
  obtain ⟨q1, q2, q3, q4, q5, q6, q7⟩ := L.ends F
  have F1 := F.flo
  have F2 := F.fhi
  obtain ⟨am, mb, e, le, cs⟩ := L
  obtain ⟨r1, r2, r3, _⟩ := R
  have g1 : ∀ x, s ≤ x → x < mid → d'[x]! = d[m + (x - s)]! := fun x k1 k2 => by have := r1 (x - s) (by omega); rwa [show s + (x - s) = x by omega] at this
  have g2 : ∀ x, mid ≤ x → x < mid + m - s → d'[x]! = d[s + (x - mid)]! := fun x k1 k2 => by have := r2 (x - mid) (by omega); rwa [show s + (mid + m - s - m) + (x - mid) = x by omega] at this
  refine ⟨fun x y hx hxm hmy hy => ?_, fun x y hx hxy hy => ?_, fun x y hx hxy hy => ?_, fun x y hx hxy hy => ?_, fun x y hx hxy hy => ?_⟩
  · by_cases e1 : x < s
    · rw [r3 x (.inl e1)]
      by_cases e2 : y < mid + m - s
      · rw [g2 y hmy e2]; exact h1 _ _ hx (by omega) (by omega)
      · rw [r3 y (.inr (by omega))]
        have k0 : lo ≤ s - 1 := by rcases cs with c | c <;> omega
        have k1 := F.no (s - 1) k0 (by omega)
        have k2 : ltR d[s - 1]! d[x]! = false := SortedIn.le h1 hx (by omega) (by omega)
        have k3 : ltR d[y]! d[mid + m - 1 - (s - 1)]! = false := SortedIn.le h2 (by omega) (by omega) hy
        exact swoR.ntrans _ _ _ k3 (swoR.ntrans _ _ _ k1 k2)
    · rw [g1 x (by omega) hxm]
      by_cases e2 : y < mid + m - s
      · rw [g2 y hmy e2]
        have k0 : s < hi := by rcases cs with c | c <;> omega
        have k1 := F.yes s (Nat.le_refl _) k0
        have k2 : ltR d[s + (y - mid)]! d[s]! = false := SortedIn.le h1 (by omega) (by omega) (by omega)
        have k3 : ltR d[mid + m - 1 - s]! d[m + (x - s)]! = false := SortedIn.le h2 (by omega) (by omega) (by omega)
        exact asymm (lt_le (le_lt k3 k1) k2)
      · rw [r3 y (.inr (by omega))]; exact h2 _ _ (by omega) (by omega) hy
  · rw [r3 x (.inl (by omega)), r3 y (.inl (by omega))]; exact h1 _ _ hx hxy (by omega)
  · rw [g1 x hx (by omega), g1 y (by omega) hy]; exact h2 _ _ (by omega) (by omega) (by omega)
  · rw [g2 x hx (by omega), g2 y (by omega) hy]; exact h1 _ _ (by omega) (by omega) (by omega)
  · rw [r3 x (.inr (by omega)), r3 y (.inr (by omega))]; exact h2 _ _ (by omega) (by omega) hy
theorem Cross.left {mid : Nat} (h : Cross a mid b d) (hb : b ≤ d.size) (hm : mid ≤ b) (p : PermIn a mid d d') : Cross a mid b d' := by
  intro x y hx hxm hmy hy
  rw [p.2.1 y (.inr hmy)]
  exact permIn_all _ _ _ _ (fun z => ltR d[y]! z = false) (by omega) p (fun i k1 k2 => h i y k1 k2 hmy hy) x hx hxm
theorem Cross.right {mid : Nat} (h : Cross a mid b d) (hb : b ≤ d.size) (p : PermIn mid b d d') : Cross a mid b d' := by
  intro x y hx hxm hmy hy
  rw [p.2.1 x (.inl hxm)]
  exact permIn_all _ _ _ _ (fun z => ltR z d[x]! = false) hb p (fun i k1 k2 => h x i hx hxm k1 k2) y hmy hy
theorem SortedIn.same (h : SortedIn ltR a b d) (e : ∀ x, a ≤ x → x < b → d'[x]! = d[x]!) : SortedIn ltR a b d' := by
  intro x y hx hxy hy
  rw [e x hx (by omega), e y (by omega) hy]
  exact h x y hx hxy hy
theorem SortedIn.short (h : b ≤ a + 1) : SortedIn ltR a b d := fun x y hx hxy hy => by omega
theorem Cross.sorted {mid : Nat} (h : Cross a mid b d) (h1 : SortedIn ltR a mid d) (h2 : SortedIn ltR mid b d) : SortedIn ltR a b d := by
  intro x y hx hxy hy
  by_cases e1 : y < mid
  · exact h1 x y hx hxy e1
  · by_cases e2 : x < mid
    · exact h x y hx e2 (by omega) hy
    · exact h2 x y (by omega) hxy hy
theorem half_none {s : Nat} (h1 : SortedIn ltR a s d) (h2 : SortedIn ltR s b d) (h : ¬ (a < s ∧ s < b)) (ha : a ≤ s) (hb : s ≤ b) : SortedIn ltR a b d := by
  by_cases e : a = s
  · subst e; exact h2
  · have : s = b := by omega
    subst this; exact h1
end
end Go.Proofs.YtdibijhaiaiifaaDoor
/- The walk of the library's symMerge. -/
namespace Go.Proofs.YtdibijhaiaiifaaDoor
open Go.RowKit
open Go.Sort
set_option maxHeartbeats 4000000 in
set_option maxRecDepth 1000000 in
theorem symMerge_any (wb : World) (G c sz : Nat) (hsz : sz ≤ 1000000) : ∀ (N a m b : Nat) (d : Array RR) (w : World), b - a ≤ N → St wb G d w → d.size = sz → a < m → m < b → b ≤ sz → Hid (SortedIn ltR a m d) → Hid (SortedIn ltR m b d) →
    Calls Tryd.prog 153 #[.slice (some ⟨G, 0, none⟩) sz c, .int .i64 a, .int .i64 m, .int .i64 b, .func (.func 73) #[] #[]] w fun e w' => e = .returned (.tuple #[]) ∧ ∃ d', St wb G d' w' ∧ PermIn a b d d' ∧ SortedIn ltR a b d' := by
  intro N
  induction N with
  | zero => intro a m b d w h1 _ _ h2 h3; omega
  | succ N ih =>
    intro a m b d w hN S hd ham hmb hb H1 H2
    by_cases c1 : m = a + 1
    · have e1 : ((m : Int) - (a : Int) == 1) = true := by rw [beq_iff_eq]; omega
      have HMA := Lib.hid c1
      have HM : Hid (∀ x y, m ≤ x → x ≤ y → y < b → (!ltR d[x]! d[a]!) = true → (!ltR d[y]! d[a]!) = true) := Lib.hid fun x y k1 k2 k3 k4 => by
        have := swoR.ntrans _ _ _ (SortedIn.le H2.out k1 k2 k3) (by simpa using k4)
        simpa using this
      clear ih hN c1 H1
      go_enter Tryd.func153, Tryd.ntmps153
      go_wp2
      go_loopg [10, 11] (b - m) (fun g vi vj wr => ∃ (i j : Nat), vi = .int .i64 i ∧ vj = .int .i64 j ∧ j - i ≤ g ∧ m ≤ i ∧ i ≤ j ∧ j ≤ b ∧ Hid (Srch (fun x => !ltR d[x]! d[a]!) m b i j) ∧ St wb G d wr)
      case atStart => exact ⟨m, b, rfl, rfl, Nat.le_refl _, Nat.le_refl _, by omega, Nat.le_refl _, Lib.hid (Srch.start _ (by omega)), S⟩
      case round =>
        clear S
        obtain ⟨i, j, rfl, rfl, hg, hmi, hij, hjb, F, S⟩ := hrel
        by_cases hlt : i < j
        · have hltz : (i : Int) < (j : Int) := by omega
          obtain ⟨h, hh⟩ : ∃ h, h = (i + j) / 2 := ⟨_, rfl⟩
          have hs : ((i : Int) + (j : Int)) / 2 = (h : Int) := by omega
          have ih1 : i ≤ h := by omega
          have ih2 : h < j := by omega
          have HH := Lib.hid hh
          clear hh
          have hd1 : h < d.size := by omega
          have hd2 : a < d.size := by omega
          obtain ⟨a0, a1⟩ := S.cells hd1
          obtain ⟨b0, b1⟩ := S.cells hd2
          have rx := S.row hd1
          have ry := S.row hd2
          have FU := Lib.hid (fun q : (!ltR d[h]! d[a]!) = false => F.out.up HM.out ih1 ih2 q)
          have FD := Lib.hid (fun q : (!ltR d[h]! d[a]!) = true => F.out.down HM.out ih1 ih2 q)
          generalize hx : d[h]! = x at *
          generalize hy : d[a]! = y at *
          replace a0 := After.cell a0
          replace a1 := After.cell a1
          replace b0 := After.cell b0
          replace b1 := After.cell b1
          obtain ⟨r, hr⟩ : ∃ r, cmpT x.t y.t = r := ⟨_, rfl⟩
          have hz : (h : Int) < (sz : Int) := by omega
          have az : (a : Int) < (sz : Int) := by omega
          have HX := Lib.hid hx
          have HY := Lib.hid hy
          clear hx hy
          go_upto_region 5 with fail
          refine wp_region_after (by kernel_rfl) (by kernel_rfl) ?_
          repeat (quiet_step ((go_at_call 73; exact byArgs_after rx ry _)))
          refine wpQuiet_nil ?_
          intro w2 hg2
          replace S := S.grew hg2
          clear a0 a1 b0 b1
          by_cases hlv : r < 0
          · have HN := Lib.hid (FU.out (by unfold ltR; rw [hr, decide_eq_true hlv]; rfl))
            go_wp2
            go_roundg (j - (h + 1))
            case measure => omega
            case rel => exact ⟨h + 1, j, by go_num, rfl, Nat.le_refl _, by omega, by omega, hjb, HN, S⟩
          · have HN := Lib.hid (FD.out (by unfold ltR; rw [hr, decide_eq_false hlv]; rfl))
            go_wp2
            go_roundg (h - i)
            case measure => omega
            case rel => exact ⟨i, h, rfl, rfl, Nat.le_refl _, hmi, ih1, by omega, HN, S⟩
        · have hltz : ¬ (i : Int) < (j : Int) := by omega
          have eij : j = i := by omega
          subst eij
          clear hg hij hlt
          go_wp2
          go_loopg [13] (j - 1 - a) (fun g vk wr => ∃ (k : Nat) (dk : Array RR), vk = .int .i64 k ∧ j - 1 - k ≤ g ∧ a ≤ k ∧ k ≤ j - 1 ∧ dk.size = sz ∧ Hid (Up1 a b k d dk) ∧ St wb G dk wr)
          case atStart => exact ⟨a, d, rfl, Nat.le_refl _, Nat.le_refl _, by omega, hd, Lib.hid (Up1.start a b d), S⟩
          case round =>
            clear S
            obtain ⟨k, dk, rfl, hg, hak, hki, hdk, U, S⟩ := hrel
            by_cases hlt : k < j - 1
            · have hltz : (k : Int) < (j : Int) - 1 := by omega
              have h1d : k < dk.size := by omega
              have h2d : k + 1 < dk.size := by omega
              obtain ⟨a0, a1⟩ := S.cells h1d
              obtain ⟨b0, b1⟩ := S.cells h2d
              have S3 := Lib.hid (S.swap (i := k) (j := k + 1) h1d h2d)
              have UN := Lib.hid (U.out.step hak (by omega) (by omega))
              have f0 := S.free (k * 2)
              have f1 := S.free (k * 2 + 1)
              have f2 := S.free ((k + 1) * 2)
              have f3 := S.free ((k + 1) * 2 + 1)
              generalize dk[k]! = x at *
              generalize dk[k + 1]! = y at *
              have kz : (k : Int) < (sz : Int) := by omega
              have kz1 : (k : Int) + 1 < (sz : Int) := by omega
              have kz2 : ((k : Int) + 1).toNat = k + 1 := by omega
              go_upto_region 11 with fail
              go_region
              replace S3 := S3.out.grew (Grew.refl _).drew
              clear a0 a1 b0 b1 f0 f1 f2 f3 S
              generalize World.drew _ = w3 at S3 ⊢
              go_wp2
              go_roundg (j - 1 - (k + 1))
              case measure => omega
              case rel => exact ⟨k + 1, _, by go_num, Nat.le_refl _, by omega, by omega, by rw [size_swp]; exact hdk, UN, S3⟩
            · have hltz : ¬ (k : Int) < (j : Int) - 1 := by omega
              have ek : k = j - 1 := by omega
              subst ek
              have HS := Lib.hid (merged1 (by have := H2.out; rw [HMA.out] at this; exact this) (by rw [← HMA.out]; exact F.out) U.out)
              go_wp2
              refine bodyPost_ret (results_none (by kernel_rfl) _ _ _) rfl ?_
              exact ⟨rfl, dk, S, U.out.perm, HS.out⟩
    · by_cases c2 : b = m + 1
      · have e0 : ((m : Int) - (a : Int) == 1) = false := by rw [beq_eq_false_iff_ne]; omega
        have e1 : ((b : Int) - (m : Int) == 1) = true := by rw [beq_iff_eq]; omega
        have HM : Hid (∀ x y, a ≤ x → x ≤ y → y < m → ltR d[m]! d[x]! = true → ltR d[m]! d[y]! = true) := Lib.hid fun x y k1 k2 k3 k4 => lt_le k4 (SortedIn.le H1.out k1 k2 k3)
        have HMA := Lib.hid c2
        clear ih hN c1 c2 H2
        go_enter Tryd.func153, Tryd.ntmps153
        go_wp2
        go_loopg [14, 15] (m - a) (fun g vi vj wr => ∃ (i j : Nat), vi = .int .i64 i ∧ vj = .int .i64 j ∧ j - i ≤ g ∧ a ≤ i ∧ i ≤ j ∧ j ≤ m ∧ Hid (Srch (fun x => ltR d[m]! d[x]!) a m i j) ∧ St wb G d wr)
        case atStart => exact ⟨a, m, rfl, rfl, Nat.le_refl _, Nat.le_refl _, by omega, Nat.le_refl _, Lib.hid (Srch.start _ (by omega)), S⟩
        case round =>
          clear S
          obtain ⟨i, j, rfl, rfl, hg, hmi, hij, hjb, F, S⟩ := hrel
          by_cases hlt : i < j
          · have hltz : (i : Int) < (j : Int) := by omega
            obtain ⟨h, hh⟩ : ∃ h, h = (i + j) / 2 := ⟨_, rfl⟩
            have hs : ((i : Int) + (j : Int)) / 2 = (h : Int) := by omega
            have ih1 : i ≤ h := by omega
            have ih2 : h < j := by omega
            have HH := Lib.hid hh
            clear hh
            have hd1 : m < d.size := by omega
            have hd2 : h < d.size := by omega
            obtain ⟨a0, a1⟩ := S.cells hd1
            obtain ⟨b0, b1⟩ := S.cells hd2
            have rx := S.row hd1
            have ry := S.row hd2
            have FU := Lib.hid (fun q : ltR d[m]! d[h]! = false => F.out.up HM.out ih1 ih2 q)
            have FD := Lib.hid (fun q : ltR d[m]! d[h]! = true => F.out.down HM.out ih1 ih2 q)
            generalize hx : d[m]! = x at *
            generalize hy : d[h]! = y at *
            replace a0 := After.cell a0
            replace a1 := After.cell a1
            replace b0 := After.cell b0
            replace b1 := After.cell b1
            obtain ⟨r, hr⟩ : ∃ r, cmpT x.t y.t = r := ⟨_, rfl⟩
            have hz : (h : Int) < (sz : Int) := by omega
            have az : (m : Int) < (sz : Int) := by omega
            have HX := Lib.hid hx
            have HY := Lib.hid hy
            clear hx hy
            go_upto_region 17 with fail
            refine wp_region_after (by kernel_rfl) (by kernel_rfl) ?_
            repeat (quiet_step ((go_at_call 73; exact byArgs_after rx ry _)))
            refine wpQuiet_nil ?_
            intro w2 hg2
            replace S := S.grew hg2
            clear a0 a1 b0 b1
            by_cases hlv : r < 0
            · have HN := Lib.hid (FD.out (by unfold ltR; rw [hr, decide_eq_true hlv]))
              rw [decide_eq_true hlv]
              go_wp2
              go_roundg (h - i)
              case measure => omega
              case rel => exact ⟨i, h, rfl, rfl, Nat.le_refl _, hmi, ih1, by omega, HN, S⟩
            · have HN := Lib.hid (FU.out (by unfold ltR; rw [hr, decide_eq_false hlv]))
              rw [decide_eq_false hlv]
              go_wp2
              go_roundg (j - (h + 1))
              case measure => omega
              case rel => exact ⟨h + 1, j, by go_num, rfl, Nat.le_refl _, by omega, by omega, hjb, HN, S⟩
          · have hltz : ¬ (i : Int) < (j : Int) := by omega
            have eij : j = i := by omega
            subst eij
            clear hg hij hlt
            go_wp2
            go_loopg [17] (m - j) (fun g vk wr => ∃ (k : Nat) (dk : Array RR), vk = .int .i64 k ∧ k - j ≤ g ∧ j ≤ k ∧ k ≤ m ∧ dk.size = sz ∧ Hid (Dn1 a m k d dk) ∧ St wb G dk wr)
            case atStart => exact ⟨m, d, rfl, Nat.le_refl _, hjb, Nat.le_refl _, hd, Lib.hid (Dn1.start a m d), S⟩
            case round =>
              clear S
              obtain ⟨k, dk, rfl, hg, hjk, hkm, hdk, U, S⟩ := hrel
              by_cases hlt : j < k
              · obtain ⟨kp, rfl⟩ : ∃ kp, k = kp + 1 := ⟨k - 1, by omega⟩
                have h1d : kp + 1 < dk.size := by omega
                have h2d : kp < dk.size := by omega
                obtain ⟨a0, a1⟩ := S.cells h1d
                obtain ⟨b0, b1⟩ := S.cells h2d
                have S3 := Lib.hid (S.swap (i := kp + 1) (j := kp) h1d h2d)
                have UN := Lib.hid (U.out.step (by omega) (by omega) (by omega))
                have f0 := S.free (kp * 2)
                have f1 := S.free (kp * 2 + 1)
                have f2 := S.free ((kp + 1) * 2)
                have f3 := S.free ((kp + 1) * 2 + 1)
                generalize dk[kp + 1]! = x at *
                generalize dk[kp]! = y at *
                have ltz : (j : Int) < (kp : Int) + 1 := by omega
                have kz : (kp : Int) < (sz : Int) := by omega
                have kz1 : (kp : Int) + 1 < (sz : Int) := by omega
                have kz2 : ((kp : Int) + 1).toNat = kp + 1 := by omega
                go_upto_region 23 with fail
                go_region
                replace S3 := S3.out.grew (Grew.refl _).drew
                clear a0 a1 b0 b1 f0 f1 f2 f3 S
                generalize World.drew _ = w3 at S3 ⊢
                go_wp2
                go_roundg (kp - j)
                case measure => omega
                case rel => exact ⟨kp, _, by go_num, Nat.le_refl _, by omega, by omega, by rw [size_swp]; exact hdk, UN, S3⟩
              · have hltz : ¬ (j : Int) < (k : Int) := by omega
                have ek : k = j := by omega
                subst ek
                have HS := Lib.hid (merged2 H1.out F.out U.out)
                rw [← HMA.out] at HS
                have HP := Lib.hid U.out.perm
                rw [← HMA.out] at HP
                go_wp2
                refine bodyPost_ret (results_none (by kernel_rfl) _ _ _) rfl ?_
                exact ⟨rfl, dk, S, HP.out, HS.out⟩
      · have e0 : ((m : Int) - (a : Int) == 1) = false := by rw [beq_eq_false_iff_ne]; omega
        have e1 : ((b : Int) - (m : Int) == 1) = false := by rw [beq_eq_false_iff_ne]; omega
        obtain ⟨mid, hmid⟩ : ∃ mid, mid = (a + b) / 2 := ⟨_, rfl⟩
        have hmz : ((a : Int) + (b : Int)) / 2 = (mid : Int) := by omega
        have hm1 : a < mid := by omega
        have hm2 : mid < b := by omega
        have HMID := Lib.hid hmid
        clear hmid c1 c2
        go_enter Tryd.func153, Tryd.ntmps153
        go_upto_if 140 with fail
        go_cut [20, 21] from 140 to 146 (fun v20 v21 wx => ∃ (lo hi : Nat), v20 = .int .i64 lo ∧ v21 = .int .i64 hi ∧ lo ≤ hi ∧ hi ≤ m ∧ hi ≤ mid ∧ Hid (Lm a m b mid lo hi) ∧ St wb G d wx)
        case first =>
          by_cases hc : mid < m
          · have hcz : (mid : Int) < (m : Int) := by omega
            have hcz2 : (mid : Int) + (m : Int) - (b : Int) = ((mid + m - b : Nat) : Int) := by have := HMID.out; omega
            have HL : Hid (Lm a m b mid (mid + m - b) mid) := Lib.hid ⟨ham, hmb, HMID.out, by omega, .inl ⟨hc, rfl, rfl⟩⟩
            go_wp2
            go_meet
            case rel => exact ⟨mid + m - b, mid, rfl, rfl, by omega, by omega, Nat.le_refl _, HL, S⟩
          · have hcz : ¬ (mid : Int) < (m : Int) := by omega
            have HL : Hid (Lm a m b mid a m) := Lib.hid ⟨ham, hmb, HMID.out, by omega, .inr ⟨by omega, rfl, rfl⟩⟩
            go_wp2
            go_meet
            case rel => exact ⟨a, m, rfl, rfl, by omega, Nat.le_refl _, by omega, HL, S⟩
        case rest =>
          clear S
          obtain ⟨lo, hi, rfl, rfl, hlh, hhm, hhd, L, S⟩ := hcut
          have MN := Lib.hid (L.out.mono H1.out H2.out)
          go_wp2
          go_loopg [20, 21] (hi - lo) (fun g vi vj wr => ∃ (i j : Nat), vi = .int .i64 i ∧ vj = .int .i64 j ∧ j - i ≤ g ∧ lo ≤ i ∧ i ≤ j ∧ j ≤ hi ∧ Hid (Srch (fun x => ltR d[mid + m - 1 - x]! d[x]!) lo hi i j) ∧ St wb G d wr)
          case atStart => exact ⟨lo, hi, rfl, rfl, Nat.le_refl _, Nat.le_refl _, hlh, Nat.le_refl _, Lib.hid (Srch.start _ hlh), S⟩
          case round =>
            clear S
            obtain ⟨i, j, rfl, rfl, hg, hmi, hij, hjb, F, S⟩ := hrel
            by_cases hlt : i < j
            · have hltz : (i : Int) < (j : Int) := by omega
              obtain ⟨h, hh⟩ : ∃ h, h = (i + j) / 2 := ⟨_, rfl⟩
              have hs : ((i : Int) + (j : Int)) / 2 = (h : Int) := by omega
              have ih1 : i ≤ h := by omega
              have ih2 : h < j := by omega
              have HH := Lib.hid hh
              clear hh
              obtain ⟨q, hq⟩ : ∃ q, q = mid + m - 1 - h := ⟨_, rfl⟩
              have hqz : (mid : Int) + (m : Int) - 1 - (h : Int) = (q : Int) := by omega
              have hqb : q < b := by rcases L.out.cs with k | k <;> have := HMID.out <;> omega
              have hd1 : q < d.size := by omega
              have hd2 : h < d.size := by omega
              obtain ⟨a0, a1⟩ := S.cells hd1
              obtain ⟨b0, b1⟩ := S.cells hd2
              have rx := S.row hd1
              have ry := S.row hd2
              have FU := Lib.hid (fun k : ltR d[mid + m - 1 - h]! d[h]! = false => F.out.up MN.out ih1 ih2 k)
              have FD := Lib.hid (fun k : ltR d[mid + m - 1 - h]! d[h]! = true => F.out.down MN.out ih1 ih2 k)
              rw [← hq] at FU FD
              have HQ := Lib.hid hq
              clear hq
              generalize hx : d[q]! = x at *
              generalize hy : d[h]! = y at *
              replace a0 := After.cell a0
              replace a1 := After.cell a1
              replace b0 := After.cell b0
              replace b1 := After.cell b1
              obtain ⟨r, hr⟩ : ∃ r, cmpT x.t y.t = r := ⟨_, rfl⟩
              have hz : (h : Int) < (sz : Int) := by omega
              have qz : (q : Int) < (sz : Int) := by omega
              have qw : IntKind.i64.wrap (q : Int) = (q : Int) := by rw [IntKind.wrap_i64]; omega
              have HX := Lib.hid hx
              have HY := Lib.hid hy
              clear hx hy
              go_upto_region 35 with fail
              refine wp_region_after (by kernel_rfl) (by kernel_rfl) ?_
              repeat (quiet_step ((go_at_call 73; exact byArgs_after rx ry _)))
              refine wpQuiet_nil ?_
              intro w2 hg2
              replace S := S.grew hg2
              clear a0 a1 b0 b1
              by_cases hlv : r < 0
              · have HN := Lib.hid (FD.out (by unfold ltR; rw [hr, decide_eq_true hlv]))
                rw [decide_eq_true hlv]
                go_wp2
                go_roundg (h - i)
                case measure => omega
                case rel => exact ⟨i, h, rfl, rfl, Nat.le_refl _, hmi, ih1, by omega, HN, S⟩
              · have HN := Lib.hid (FU.out (by unfold ltR; rw [hr, decide_eq_false hlv]))
                rw [decide_eq_false hlv]
                go_wp2
                go_roundg (j - (h + 1))
                case measure => omega
                case rel => exact ⟨h + 1, j, by go_num, rfl, Nat.le_refl _, by omega, by omega, hjb, HN, S⟩
            · have hltz : ¬ (i : Int) < (j : Int) := by omega
              have eij : j = i := by omega
              subst eij
              obtain ⟨s1, s2, s3, s4, s5, s6, s7⟩ := L.out.ends F.out
              obtain ⟨e, he⟩ : ∃ e, e = mid + m - j := ⟨_, rfl⟩
              have hez : (mid : Int) + (m : Int) - (j : Int) = (e : Int) := by omega
              have CR := Lib.hid (fun d' (R : Rtd j m (mid + m - j) d d') => L.out.cross H1.out H2.out F.out R)
              rw [← he] at s3 s4 s6 CR
              have HE := Lib.hid he
              have hes : (e : Int) < (sz : Int) + 1 := by omega
              clear he F L MN H1 H2 hg hij hlt hltz hjb
              obtain ⟨q1, Q1⟩ : ∃ q1, Hid (q1 = (decide (j < m) && decide (m < e))) := ⟨_, rfl⟩
              go_upto_region 39 with fail
              go_cut [185] from 178 to 185 (fun v wx => v = .bool q1 ∧ wr = wx)
              case first =>
                by_cases k1 : j < m
                · have k1z : (j : Int) < (m : Int) := by omega
                  by_cases k2 : m < e
                  · have k2z : (m : Int) < (e : Int) := by omega
                    obtain rfl : q1 = true := by rw [Q1.out]; simp [k1, k2]
                    clear k1 k2
                    go_wp2
                    go_meet
                    case rel => exact ⟨rfl, rfl⟩
                  · have k2z : ¬ (m : Int) < (e : Int) := by omega
                    obtain rfl : q1 = false := by rw [Q1.out]; simp [k1, k2]
                    clear k1 k2
                    go_wp2
                    go_meet
                    case rel => exact ⟨rfl, rfl⟩
                · have k1z : ¬ (j : Int) < (m : Int) := by omega
                  obtain rfl : q1 = false := by rw [Q1.out]; simp [k1]
                  clear k1
                  go_wp2
                  go_meet
                  case rel => exact ⟨rfl, rfl⟩
              case rest =>
                obtain ⟨rfl, hwx⟩ := hcut
                subst hwx
                go_upto_if 185 with fail
                go_cut [191] from 185 to 191 (fun v wx => ∃ d2, St wb G d2 wx ∧ Hid (Rtd j m e d d2))
                case first =>
                  cases q1
                  · have R0 := Lib.hid (Rtd.none (d := d) s2 s3 (by have := Q1.out; simpa using this))
                    go_wp2
                    go_meet
                    case rel => exact ⟨d, S, R0⟩
                  · have K : j < m ∧ m < e := by have := Q1.out; simpa using this
                    obtain ⟨k1, k2⟩ := K
                    go_wp2_with fail
                    have hC := rotate_any wb G c j m e d _ S k1 k2 (by omega) (by omega)
                    rw [hd] at hC
                    refine hC.mono ?_
                    rintro e w1 ⟨rfl, d2, S2, R2⟩
                    have R0 := Lib.hid (Rtd.of k1 k2 R2)
                    clear k1 k2
                    go_wp2
                    go_meet
                    case rel => exact ⟨d2, S2, R0⟩
                case rest =>
                  clear S Q1
                  obtain ⟨d2, S, R⟩ := hcut
                  have hR := R.out.perm
                  obtain ⟨C0, C1, C2, C3, C4⟩ := CR.out _ R.out
                  have hd2 : d2.size = sz := hR.1.trans hd
                  have P2 := Lib.hid (permIn_mono _ _ _ _ a b s1 s4 (by omega) hR)
                  replace C0 := Lib.hid C0
                  replace C1 := Lib.hid C1
                  replace C2 := Lib.hid C2
                  replace C3 := Lib.hid C3
                  replace C4 := Lib.hid C4
                  clear hR R CR
                  obtain ⟨q2, Q2⟩ : ∃ q2, Hid (q2 = (decide (a < j) && decide (j < mid))) := ⟨_, rfl⟩
                  go_upto_region 41 with fail
                  go_cut [199] from 192 to 199 (fun v wx => v = .bool q2 ∧ _ = wx)
                  case first =>
                    by_cases k1 : a < j
                    · have k1z : (a : Int) < (j : Int) := by omega
                      by_cases k2 : j < mid
                      · have k2z : (j : Int) < (mid : Int) := by omega
                        obtain rfl : q2 = true := by rw [Q2.out]; simp [k1, k2]
                        clear k1 k2
                        go_wp2
                        go_meet
                        case rel => exact ⟨rfl, rfl⟩
                      · have k2z : ¬ (j : Int) < (mid : Int) := by omega
                        obtain rfl : q2 = false := by rw [Q2.out]; simp [k1, k2]
                        clear k1 k2
                        go_wp2
                        go_meet
                        case rel => exact ⟨rfl, rfl⟩
                    · have k1z : ¬ (a : Int) < (j : Int) := by omega
                      obtain rfl : q2 = false := by rw [Q2.out]; simp [k1]
                      clear k1
                      go_wp2
                      go_meet
                      case rel => exact ⟨rfl, rfl⟩
                  case rest =>
                    obtain ⟨rfl, hwx⟩ := hcut
                    subst hwx
                    go_upto_if 199 with fail
                    go_cut [205] from 199 to 205 (fun v wx => ∃ d3, St wb G d3 wx ∧ Hid (PermIn a mid d2 d3) ∧ Hid (SortedIn ltR a mid d3))
                    case first =>
                      cases q2
                      · have HS := Lib.hid (half_none C1.out C2.out (by have := Q2.out; simp at this; omega) s1 s5)
                        have HP := Lib.hid (permIn_refl d2 a mid)
                        go_wp2
                        go_meet
                        case rel => exact ⟨d2, S, HP, HS⟩
                      · have K : a < j ∧ j < mid := by have := Q2.out; simpa using this
                        obtain ⟨k1, k2⟩ := K
                        go_wp2_with fail
                        refine (ih a j mid d2 _ (by omega) S hd2 k1 k2 (by omega) C1 C2).mono ?_
                        rintro e w1 ⟨rfl, d3, S3, P3, S4⟩
                        replace P3 := Lib.hid P3
                        replace S4 := Lib.hid S4
                        clear k1 k2
                        go_wp2
                        go_meet
                        case rel => exact ⟨d3, S3, P3, S4⟩
                    case rest =>
                      clear S Q2
                      obtain ⟨d3, S, P3, S3⟩ := hcut
                      have hd3 : d3.size = sz := P3.out.1.trans hd2
                      replace C0 := Lib.hid (C0.out.left (by omega) (by omega) P3.out)
                      replace C3 := Lib.hid (SortedIn.same C3.out (d' := d3) fun x k1 k2 => P3.out.2.1 x (.inr k1))
                      replace C4 := Lib.hid (SortedIn.same C4.out (d' := d3) fun x k1 k2 => P3.out.2.1 x (.inr (by omega)))
                      replace P2 := Lib.hid (permIn_trans _ _ _ _ _ P2.out (permIn_mono _ _ _ _ a b (Nat.le_refl _) (by omega) (by omega) P3.out))
                      clear C1 C2 P3
                      obtain ⟨q3, Q3⟩ : ∃ q3, Hid (q3 = (decide (mid < e) && decide (e < b))) := ⟨_, rfl⟩
                      go_upto_region 43 with fail
                      go_cut [213] from 206 to 213 (fun v wx => v = .bool q3 ∧ _ = wx)
                      case first =>
                        by_cases k1 : mid < e
                        · have k1z : (mid : Int) < (e : Int) := by omega
                          by_cases k2 : e < b
                          · have k2z : (e : Int) < (b : Int) := by omega
                            obtain rfl : q3 = true := by rw [Q3.out]; simp [k1, k2]
                            clear k1 k2
                            go_wp2
                            go_meet
                            case rel => exact ⟨rfl, rfl⟩
                          · have k2z : ¬ (e : Int) < (b : Int) := by omega
                            obtain rfl : q3 = false := by rw [Q3.out]; simp [k1, k2]
                            clear k1 k2
                            go_wp2
                            go_meet
                            case rel => exact ⟨rfl, rfl⟩
                        · have k1z : ¬ (mid : Int) < (e : Int) := by omega
                          obtain rfl : q3 = false := by rw [Q3.out]; simp [k1]
                          clear k1
                          go_wp2
                          go_meet
                          case rel => exact ⟨rfl, rfl⟩
                      case rest =>
                        obtain ⟨rfl, hwx⟩ := hcut
                        subst hwx
                        go_upto_if 213 with fail
                        cases q3
                        · have HS0 := Lib.hid (half_none C3.out C4.out (by have := Q3.out; simp at this; omega) s6 s4)
                          have HS := Lib.hid (C0.out.sorted S3.out HS0.out)
                          go_wp2
                          go_end0
                          exact ⟨rfl, d3, S, P2.out, HS.out⟩
                        · have K : mid < e ∧ e < b := by have := Q3.out; simpa using this
                          obtain ⟨k1, k2⟩ := K
                          go_wp2_with fail
                          refine (ih mid e b d3 _ (by omega) S hd3 k1 k2 (by omega) C3 C4).mono ?_
                          rintro e w1 ⟨rfl, d4, S4, P4, S5⟩
                          have HP := Lib.hid (permIn_trans _ _ _ _ _ P2.out (permIn_mono _ _ _ _ a b (by omega) (Nat.le_refl _) (by omega) P4))
                          have HS := Lib.hid ((C0.out.right (by omega) P4).sorted (SortedIn.same S3.out fun x k1 k2 => P4.2.1 x (.inl k2)) S5)
                          clear P4 S5 k1 k2
                          go_wp2
                          go_end0
                          exact ⟨rfl, d4, S4, HP.out, HS.out⟩
end Go.Proofs.YtdibijhaiaiifaaDoor
