/- The walks of the library's stable sort. -/
import Derived.Test.YtdibijhaiaiifaaDoorSf
namespace Go.Proofs.YtdibijhaiaiifaaDoor
open Go.RowKit
open Go.Sort
/-- From a on the blocks of s rows are sorted. -/
inductive Bl (s n : Nat) (d : Array RR) : Nat → Prop
  | done {a : Nat} (h : n ≤ a) : Bl s n d a
  | step {a : Nat} (h : SortedIn ltR a (min (a + s) n) d) (k : Bl s n d (a + s)) : Bl s n d a
/-- The blocks of s rows before a are sorted. -/
inductive Dn (s : Nat) (d : Array RR) : Nat → Prop
  | zero : Dn s d 0
  | step {a : Nat} (h : Dn s d a) (k : SortedIn ltR a (a + s) d) : Dn s d (a + s)
section
variable {s n : Nat} {d d' : Array RR}
theorem Bl.same {a : Nat} (h : Bl s n d a) : (∀ x, a ≤ x → d'[x]! = d[x]!) → Bl s n d' a := by
  induction h with
  | done h => intro _; exact .done h
  | step h k ih => intro e; exact .step (SortedIn.same h fun x k1 k2 => e x k1) (ih fun x hx => e x (by omega))
theorem Dn.same {a : Nat} (h : Dn s d a) : (∀ x, x < a → d'[x]! = d[x]!) → Dn s d' a := by
  induction h with
  | zero => intro _; exact .zero
  | step h k ih => intro e; exact .step (ih fun x hx => e x (by omega)) (SortedIn.same k fun x k1 k2 => e x k2)
theorem Bl.first {a : Nat} (h : Bl s n d a) : SortedIn ltR a (min (a + s) n) d := by
  cases h with
  | done h => exact SortedIn.short (by omega)
  | step h k => exact h
theorem Bl.next {a : Nat} (h : Bl s n d a) : Bl s n d (a + s) := by
  cases h with
  | done h => exact .done (by omega)
  | step h k => exact k
theorem Dn.all {a : Nat} (h : Dn s d a) : a ≤ n → Bl s n d a → Bl s n d 0 := by
  induction h with
  | zero => intro _ h; exact h
  | @step a h k ih => intro ha hb; exact ih (by omega) (.step (by rw [Nat.min_eq_left ha]; exact k) hb)
theorem Bl.of_last {a : Nat} (h : SortedIn ltR a n d) (hs : n ≤ a + s) : Bl s n d a := .step (by rw [Nat.min_eq_right hs]; exact h) (.done hs)
theorem insertion_perm {a b : Nat} (hab : a ≤ b) (hb : b ≤ d.size) : PermIn a b d (insertionSort ltR d a b) ∧ SortedIn ltR a b (insertionSort ltR d a b) := insertionSort_holds swoR d a b hab hb
theorem permIn_up {sz a b : Nat} (hs : d.size = sz) (hb : b ≤ sz) (h : PermIn a b d d') : PermIn 0 sz d d' := permIn_mono _ _ _ _ _ _ (Nat.zero_le _) hb (by omega) h
end
set_option maxHeartbeats 4000000 in
set_option maxRecDepth 1000000 in
theorem stable_any (wb : World) (G c sz : Nat) (hsz : sz ≤ 1000000) (d0 : Array RR) (w : World) (S : St wb G d0 w) (hd : d0.size = sz) :
    Calls Tryd.prog 144 #[.slice (some ⟨G, 0, none⟩) sz c, .int .i64 sz, .func (.func 73) #[] #[]] w fun e w' => e = .returned (.tuple #[]) ∧ ∃ d', St wb G d' w' ∧ PermIn 0 sz d0 d' ∧ SortedIn ltR 0 sz d' := by
  go_enter Tryd.func144, Tryd.ntmps144
  go_wp2
  go_loopg [7, 8] sz (fun g va vb wr => ∃ (a : Nat) (d : Array RR), va = .int .i64 a ∧ vb = .int .i64 (a + 20 : Nat) ∧ a ≤ sz ∧ sz - a ≤ g ∧ d.size = sz ∧ St wb G d wr ∧ Hid (PermIn 0 sz d0 d) ∧ Hid (Dn 20 d a))
  case atStart => exact ⟨0, d0, rfl, rfl, Nat.zero_le _, Nat.le_refl _, hd, S, Lib.hid (permIn_refl _ _ _), Lib.hid .zero⟩
  case round =>
    clear S
    obtain ⟨a, d, rfl, rfl, has, hg, hds, S, P, D⟩ := hrel
    by_cases hlt : a + 20 ≤ sz
    · have hltz : (a : Int) + 20 ≤ (sz : Int) := by omega
      have hI := insertion_perm (d := d) (a := a) (b := a + 20) (by omega) (by omega)
      have PN := Lib.hid (permIn_trans _ _ _ _ _ P.out (permIn_up hds hlt hI.1))
      have DN := Lib.hid (Dn.step (D.out.same (d' := insertionSort ltR d a (a + 20)) fun x hx => hI.1.2.1 x (.inl hx)) hI.2)
      have hz := hI.1.1
      clear hI
      go_wp2_with fail
      have hC := insertion_any wb G c a (a + 20) d _ S (by omega) (by omega) (by omega)
      rw [hds] at hC
      refine hC.mono ?_
      rintro e w1 ⟨rfl, S1⟩
      generalize insertionSort ltR d a (a + 20) = d1 at *
      clear hC S
      go_wp2
      go_roundg (sz - (a + 20))
      case measure => omega
      case rel => exact ⟨a + 20, d1, by go_num, by go_num, hlt, Nat.le_refl _, by omega, S1, PN, DN⟩
    · have hltz : ¬ (a : Int) + 20 ≤ (sz : Int) := by omega
      have hI := insertion_perm (d := d) (a := a) (b := sz) (by omega) (by omega)
      have PN := Lib.hid (permIn_trans _ _ _ _ _ P.out (permIn_up hds (Nat.le_refl _) hI.1))
      have BN := Lib.hid ((D.out.same (d' := insertionSort ltR d a sz) fun x hx => hI.1.2.1 x (.inl hx)).all has (Bl.of_last hI.2 (by omega)))
      have hz := hI.1.1
      clear hI
      go_wp2_with fail
      have hC := insertion_any wb G c a sz d _ S (by omega) (by omega) (by omega)
      rw [hds] at hC
      refine hC.mono ?_
      rintro e w1 ⟨rfl, S1⟩
      generalize insertionSort ltR d a sz = d1 at *
      have hd1 : d1.size = sz := by omega
      clear hC S hz P D
      go_wp2
      go_loopg [6] (sz + 1) (fun g vs wr => ∃ (s : Nat) (d : Array RR), vs = .int .i64 s ∧ 1 ≤ s ∧ s ≤ 2 * sz + 20 ∧ sz + 1 - s ≤ g ∧ d.size = sz ∧ St wb G d wr ∧ Hid (PermIn 0 sz d0 d) ∧ Hid (Bl s sz d 0))
      case atStart => exact ⟨20, d1, rfl, by omega, by omega, by omega, hd1, S1, PN, BN⟩
      case round =>
        clear S1 PN BN hd1
        obtain ⟨s, d, rfl, hs1, hs2, hg2, hds, S, P, B⟩ := hrel
        by_cases hlt2 : s < sz
        · have hltz2 : (s : Int) < (sz : Int) := by omega
          go_wp2
          go_loopg [7, 8] sz (fun g va vb wr => ∃ (a : Nat) (d : Array RR), va = .int .i64 a ∧ vb = .int .i64 (a + 2 * s : Nat) ∧ a ≤ sz ∧ sz - a ≤ g ∧ d.size = sz ∧ St wb G d wr ∧ Hid (PermIn 0 sz d0 d) ∧ Hid (Dn (2 * s) d a) ∧ Hid (Bl s sz d a))
          case atStart => exact ⟨0, d, rfl, by go_num, Nat.zero_le _, Nat.le_refl _, hds, S, P, Lib.hid .zero, B⟩
          case round =>
            clear S P B hds
            obtain ⟨a, d, rfl, rfl, has, hg, hds, S, P, D, B⟩ := hrel
            by_cases hlt3 : a + 2 * s ≤ sz
            · have hltz3 : (a : Int) + 2 * (s : Int) ≤ (sz : Int) := by omega
              have H1 : Hid (SortedIn ltR a (a + s) d) := Lib.hid (by have := B.out.first; rwa [Nat.min_eq_left (by omega)] at this)
              have H2 : Hid (SortedIn ltR (a + s) (a + 2 * s) d) := Lib.hid (by have := B.out.next.first; rwa [Nat.min_eq_left (by omega), show a + s + s = a + 2 * s by omega] at this)
              have BN := Lib.hid B.out.next.next
              rw [show a + s + s = a + 2 * s by omega] at BN
              go_wp2_with fail
              have hC := symMerge_any wb G c sz hsz (2 * s) a (a + s) (a + 2 * s) d _ (by omega) S hds (by omega) (by omega) (by omega) H1 H2
              refine hC.mono ?_
              rintro e w2 ⟨rfl, d2, S2, P2, T2⟩
              have PN := Lib.hid (permIn_trans _ _ _ _ _ P.out (permIn_up hds hlt3 P2))
              have DN := Lib.hid (Dn.step (D.out.same (d' := d2) fun x hx => P2.2.1 x (.inl hx)) T2)
              replace BN := Lib.hid (BN.out.same (d' := d2) fun x hx => P2.2.1 x (.inr hx))
              have hd2 : d2.size = sz := P2.1.trans hds
              clear hC P D B S P2 T2 H1 H2
              go_wp2
              go_roundg (sz - (a + 2 * s))
              case measure => omega
              case rel => exact ⟨a + 2 * s, d2, by go_num, by go_num, hlt3, Nat.le_refl _, hd2, S2, PN, DN, BN⟩
            · have hltz3 : ¬ (a : Int) + 2 * (s : Int) ≤ (sz : Int) := by omega
              by_cases hlt4 : a + s < sz
              · have hltz4 : (a : Int) + (s : Int) < (sz : Int) := by omega
                have H1 : Hid (SortedIn ltR a (a + s) d) := Lib.hid (by have := B.out.first; rwa [Nat.min_eq_left (by omega)] at this)
                have H2 : Hid (SortedIn ltR (a + s) sz d) := Lib.hid (by have := B.out.next.first; rwa [Nat.min_eq_right (by omega)] at this)
                go_wp2_with fail
                have hC := symMerge_any wb G c sz hsz sz a (a + s) sz d _ (by omega) S hds (by omega) (by omega) (by omega) H1 H2
                refine hC.mono ?_
                rintro e w2 ⟨rfl, d2, S2, P2, T2⟩
                have PN := Lib.hid (permIn_trans _ _ _ _ _ P.out (permIn_up hds (Nat.le_refl _) P2))
                have BN := Lib.hid ((D.out.same (d' := d2) fun x hx => P2.2.1 x (.inl hx)).all has (Bl.of_last T2 (by omega)))
                have hd2 : d2.size = sz := P2.1.trans hds
                clear hC P D B S P2 T2 H1 H2
                go_wp2
                go_roundg (sz + 1 - 2 * s)
                case measure => omega
                case rel => exact ⟨2 * s, d2, by go_num, by omega, by omega, Nat.le_refl _, hd2, S2, PN, BN⟩
              · have hltz4 : ¬ (a : Int) + (s : Int) < (sz : Int) := by omega
                have BN := Lib.hid (D.out.all has (Bl.of_last (by have := B.out.first; rwa [Nat.min_eq_right (by omega)] at this) (by omega)))
                clear D B
                go_wp2
                go_roundg (sz + 1 - 2 * s)
                case measure => omega
                case rel => exact ⟨2 * s, d, by go_num, by omega, by omega, Nat.le_refl _, hds, S, P, BN⟩
        · have hltz2 : ¬ (s : Int) < (sz : Int) := by omega
          have T := Lib.hid (show SortedIn ltR 0 sz d by have := B.out.first; rwa [Nat.min_eq_right (by omega)] at this)
          go_wp2
          go_end0
          exact ⟨rfl, d, S, P.out, T.out⟩
end Go.Proofs.YtdibijhaiaiifaaDoor
