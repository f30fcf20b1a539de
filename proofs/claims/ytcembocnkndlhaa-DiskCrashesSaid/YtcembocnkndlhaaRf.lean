/- The reference's walk: Same. -/
import Derived.Test.YtcembocnkndlhaaRe
namespace Go.Proofs.Ytcembocnkndlhaa
open Go.RowKit
theorem bytes_quiet {va vb : Value} {a b : List UInt8} {w : World} (n : Nat) (ha : IsBytes w va a) (hb : IsBytes w vb b) (q : Bool) (hq : decide (a = b) = q) :
    Calls Try.prog 26 #[va, vb] (w.drewN n) fun e w'' => e = .returned (.bool q) ∧ ∃ m, w'' = w.drewN m := by
  subst hq
  refine (SameBytes_any va vb a b (w.drewN n) (ha.keep (below_drewN (Below.refl _ _) n)) (hb.keep (below_drewN (Below.refl _ _) n))).mono ?_
  rintro e w' ⟨h1, m, h2⟩
  exact ⟨h1, n + m, by rw [h2]; simp⟩
theorem page_ne {ps qs : List (List UInt8)} {k : Nat} (ha : k < ps.length) (hb : k < qs.length) (e : ¬ps[k] = qs[k]) : ¬ps = qs := differ_at ha hb e
set_option maxHeartbeats 4000000 in
set_option maxRecDepth 100000 in
theorem Same_any (va vb : Value) (da db : Dk) (w : World) (ha : IsDisk w va da) (hb : IsDisk w vb db) :
    Calls Try.prog 21 #[va, vb] w fun e w' => e = .returned (.bool (decide (da = db))) ∧ Below w.heap.size w w' := by
  obtain ⟨pa, pc, wa, wcp, rfl, hp, hw, m1, m2, m3⟩ := ha.shape
  obtain ⟨qa, qc, xa, xcp, rfl, hq, hx, n1, n2, n3⟩ := hb.shape
  obtain ⟨ps, ws, dn⟩ := da
  obtain ⟨qs, xs, dm⟩ := db
  dsimp only at *
  obtain ⟨R, hR⟩ : ∃ R, decide ((⟨ps, ws, dn⟩ : Dk) = ⟨qs, xs, dm⟩) = R := ⟨_, rfl⟩
  have HR := Lib.hid hR
  rw [hR]
  clear hR
  have hno : ¬ (⟨ps, ws, dn⟩ : Dk) = ⟨qs, xs, dm⟩ → R = false := fun h => by rw [← HR.out]; exact decide_eq_false h
  obtain ⟨W, hW⟩ : ∃ W, W = (w.alloc (.cells #[.slice pa ps.length pc, .slice wa ws.length wcp, .bool dn] 25)).alloc (.cells #[.slice qa qs.length qc, .slice xa xs.length xcp, .bool dm] 25) := ⟨_, rfl⟩
  have b0 : Below w.heap.size w W := by subst hW; exact below_trans (below_new _ _) (below_new _ _)
  have g0 : W.heap[w.heap.size]? = some (.cells #[.slice pa ps.length pc, .slice wa ws.length wcp, .bool dn] 25 (0, 0)) := by
    subst hW; exact block_keep (heap_alloc_new w _) (below_new _ _)
  have g1 : W.heap[w.heap.size + 1]? = some (.cells #[.slice qa qs.length qc, .slice xa xs.length xcp, .bool dm] 25 (0, 0)) := by
    have h2 : (w.alloc (.cells #[.slice pa ps.length pc, .slice wa ws.length wcp, .bool dn] 25)).heap.size = w.heap.size + 1 := by simp
    subst hW
    have := heap_alloc_new (w.alloc (.cells #[.slice pa ps.length pc, .slice wa ws.length wcp, .bool dn] 25)) (.cells #[.slice qa qs.length qc, .slice xa xs.length xcp, .bool dm] 25); rwa [h2] at this
  obtain ⟨y0, y1, y2, -, -, -⟩ := Box3.of g0
  obtain ⟨z0, z1, z2, -, -, -⟩ := Box3.of g1
  have hp0 := hp.keep b0
  have hw0 := hw.keep b0
  have hq0 := hq.keep b0
  have hx0 := hx.keep b0
  by_cases e1 : ps.length = qs.length
  case neg =>
    have hn := hno (fun e => e1 (congrArg (fun d => d.pages.length) e))
    subst hn
    have hb1 : ((ps.length : Int) != (qs.length : Int)) = true := by rw [bne_iff_ne]; omega
    clear hno y0 y1 y2 z0 z1 z2
    go_enter Try.func21, Try.ntmps21
    go_wp2
    go_ret
    rw [← hW]
    exact ⟨rfl, b0⟩
  have hb1 : ((ps.length : Int) != (qs.length : Int)) = false := by rw [bne_eq_false_iff_eq]; omega
  by_cases e2 : ws.length = xs.length
  case neg =>
    have hn := hno (fun e => e2 (congrArg (fun d => d.writes.length) e))
    subst hn
    have hb2 : ((ws.length : Int) != (xs.length : Int)) = true := by rw [bne_iff_ne]; omega
    clear hno y0 y1 y2 z0 z1 z2 e1
    go_enter Try.func21, Try.ntmps21
    go_wp2
    go_ret
    rw [← hW]
    exact ⟨rfl, b0⟩
  have hb2 : ((ws.length : Int) != (xs.length : Int)) = false := by rw [bne_eq_false_iff_eq]; omega
  by_cases e3 : dn = dm
  case neg =>
    have hn := hno (fun e => e3 (congrArg (fun d => d.down) e))
    subst hn
    have hb3 : (dn == dm) = false := by simpa using e3
    clear hno y0 y1 y2 z0 z1 z2 e1 e2
    go_enter Try.func21, Try.ntmps21
    go_wp2
    go_ret
    rw [← hW]
    exact ⟨rfl, b0⟩
  subst e3
  have E1 := Lib.hid e1
  have E2 := Lib.hid e2
  have i1 : ps.length ≤ qs.length := by omega
  have i2 : ws.length ≤ xs.length := by omega
  clear e1 e2
  go_enter Try.func21, Try.ntmps21
  go_wp2
  rw [← hW]
  clear hW g0 g1
  have hz0 : ∀ n, Below W.heap.size W (W.drewN n) := fun n => below_drewN (Below.refl _ _) n
  go_loopw [5, 6] (fun i _ wr => ∃ k : Nat, k ≤ ps.length ∧ i = .int .i64 k ∧ Hid (ps.take k = qs.take k) ∧ ∃ n, wr = W.drewN n) (fun i _ _ => ps.length - (intOf i).toNat)
  case atStart => exact ⟨0, Nat.zero_le _, rfl, Lib.hid (by simp), 0, rfl⟩
  case round =>
    obtain ⟨k, hk, rfl, hse, n, hwr⟩ := hrel
    obtain ⟨wo, rfl⟩ : ∃ wo : World, wo = wr := ⟨_, rfl⟩
    have b1 : Below W.heap.size W wo := by rw [hwr]; exact hz0 n
    have HW := Lib.hid hwr
    have x0 := cell_keep b1 y0
    have x1 := cell_keep b1 y1
    have v0 := cell_keep b1 z0
    have v1 := cell_keep b1 z1
    have bo := below_trans b0 b1
    clear hwr
    by_cases hlt : k < ps.length
    · have hlt' : k < qs.length := by omega
      obtain ⟨b1, o1, va, vc, rfl, c1, hB1⟩ := (hp0.keep b1).at_ (List.getElem?_eq_getElem hlt)
      obtain ⟨b2, o2, vb, vd, rfl, c2, hB2⟩ := (hq0.keep ‹_›).at_ (List.getElem?_eq_getElem hlt')
      by_cases he : ps[k] = qs[k]
      · have hse' := Lib.hid (take_same hlt hlt' hse.out he)
        have hQ := fun n => Lib.hid (bytes_quiet n hB1 hB2 true (decide_eq_true he))
        clear he
        generalize ps[k] = x at *
        generalize qs[k] = y at *
        go_wp2
        go_quiet ((go_at_call 26; exact (hQ _).out))
        go_wp2
        go_roundw
        case rel => exact ⟨k + 1, by omega, by go_num, hse', n + nq, by rw [HW.out]; simp⟩
        case measure => simp [intOf]; omega
      · have hn := hno (fun e => he (by
          have := congrArg (fun d => d.pages) e
          dsimp only at this
          subst this; rfl))
        subst hn
        have hQ := fun n => Lib.hid (bytes_quiet n hB1 hB2 false (decide_eq_false he))
        clear he hno
        generalize ps[k] = x at *
        generalize qs[k] = y at *
        go_wp2
        go_quiet ((go_at_call 26; exact (hQ _).out))
        go_wp2
        go_ret
        exact ⟨rfl, below_drewN bo _⟩
    · have e : k = ps.length := by omega
      subst e
      have HPQ := Lib.hid (show ps = qs by have := hse.out; rw [List.take_length, E1.out, List.take_length] at this; exact this)
      obtain ⟨w1, hw1⟩ : ∃ w1 : World, w1 = wo := ⟨_, rfl⟩
      have HW1 := Lib.hid hw1
      rw [← hw1] at x0 x1 v0 v1 bo ⊢
      have hw1' : Below W.heap.size W w1 := by rw [hw1]; exact b1
      have hws1 := hw0.keep hw1'
      have hxs1 := hx0.keep hw1'
      clear hw1 y0 y1 y2 z0 z1 z2 hz0 b1 hw1' hw0 hx0 hp0 hq0 hlt
      go_wp2
      go_loopw [7] (fun i wr => ∃ k : Nat, k ≤ ws.length ∧ i = .int .i64 k ∧ Hid (ws.take k = xs.take k) ∧ ∃ n, wr = w1.drewN n) (fun i _ => ws.length - (intOf i).toNat)
      case atStart => exact ⟨0, Nat.zero_le _, rfl, Lib.hid (by simp), 0, rfl⟩
      case round =>
        obtain ⟨k, hk, rfl, hse2, n2, hwr⟩ := hrel
        obtain ⟨wo2, rfl⟩ : ∃ wo : World, wo = wr := ⟨_, rfl⟩
        have b1 : Below w1.heap.size w1 wo2 := by rw [hwr]; exact below_drewN (Below.refl _ _) n2
        have HW2 := Lib.hid hwr
        have r0 := cell_keep b1 x0
        have r1 := cell_keep b1 x1
        have s0 := cell_keep b1 v0
        have s1 := cell_keep b1 v1
        have bo2 := below_trans bo b1
        clear hwr
        by_cases hlt : k < ws.length
        · have hlt' : k < xs.length := by omega
          obtain ⟨b1, o1, va, vc, rfl, c1, d1, hB1⟩ := (hws1.keep b1).at_ (List.getElem?_eq_getElem hlt)
          obtain ⟨b2, o2, vb, vd, rfl, c2, d2, hB2⟩ := (hxs1.keep ‹_›).at_ (List.getElem?_eq_getElem hlt')
          have hg1 : (0 : Int) ≤ (k : Int) := by omega
          have hg2 : (k : Int) < (ws.length : Int) := by omega
          have hg3 : (k : Int) < (xs.length : Int) := by omega
          by_cases ha : ws[k].at_ = xs[k].at_
          · have hba : (ws[k].at_ != xs[k].at_) = false := by rw [ha]; simp
            by_cases he : ws[k].data = xs[k].data
            · have hse' := Lib.hid (take_same hlt hlt' hse2.out (Wt.ext' ha he))
              have hQ := fun n => Lib.hid (bytes_quiet n hB1 hB2 true (decide_eq_true he))
              clear he ha
              generalize ws[k] = x at *
              generalize xs[k] = y at *
              go_wp2
              go_quiet ((go_at_call 26; exact (hQ _).out))
              go_wp2
              go_roundw
              case rel => exact ⟨k + 1, by omega, by go_num, hse', n2 + nq, by rw [HW2.out]; simp⟩
              case measure => simp [intOf]; omega
            · have hn := hno (fun e => he (by
                have := congrArg (fun d => d.writes) e
                dsimp only at this
                subst this; rfl))
              subst hn
              have hQ := fun n => Lib.hid (bytes_quiet n hB1 hB2 false (decide_eq_false he))
              clear he hno ha
              generalize ws[k] = x at *
              generalize xs[k] = y at *
              go_wp2
              go_quiet ((go_at_call 26; exact (hQ _).out))
              go_wp2
              go_ret
              exact ⟨rfl, below_drewN bo2 _⟩
          · have hba : (ws[k].at_ != xs[k].at_) = true := by simpa using ha
            have hn := hno (fun e => ha (by
                have := congrArg (fun d => d.writes) e
                dsimp only at this
                subst this; rfl))
            subst hn
            clear ha hno
            generalize ws[k] = x at *
            generalize xs[k] = y at *
            go_wp2
            go_quiet (fail)
            go_wp2
            go_ret
            exact ⟨rfl, below_drewN bo2 _⟩
        · have e : k = ws.length := by omega
          subst e
          have hn : R = true := by
            rw [← HR.out]
            have h1 := hse2.out
            rw [List.take_length, E2.out, List.take_length] at h1
            exact decide_eq_true (Dk.ext' HPQ.out h1 rfl)
          subst hn
          go_wp2
          go_ret
          exact ⟨rfl, bo2⟩
end Go.Proofs.Ytcembocnkndlhaa
