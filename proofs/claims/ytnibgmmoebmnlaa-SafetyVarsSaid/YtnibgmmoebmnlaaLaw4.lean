/- The walk of the law SafetyLeast. -/
import Derived.Test.YtnibgmmoebmnlaaWr
import Derived.Test.YtnibgmmoebmnlaaWs
namespace Go.Proofs.Ytnibgmmoebmnlaa
open Go.RowKit
theorem small_fits {r : Rl} (h : small r = true) : Fits r := ⟨by have := (small_parts h).1; omega, (small_parts h).2.2⟩
theorem slice_of {w : World} {v : Value} {l : List Nat} (h : IsInts w v (zs l)) : ∃ a c, v = .slice a l.length c := by
  obtain ⟨a, c, e, _⟩ := h
  exact ⟨a, c, by rw [e, zs_length]⟩
set_option maxHeartbeats 4000000 in
set_option maxRecDepth 100000 in
theorem law4_any (r : Rl) (v : Value) (l : List Nm) (vp : Value) (picks : List Nat) (w : World) (h : RuleOk w r) (hs : IsNames w v l) (hp : IsPicks w vp picks) (hpb : ∀ x ∈ picks, x < 256) :
    Calls Try.prog 4 #[ruleV r, v, vp] w fun e w' => e = .returned (.bool true) ∧ Below w.heap.size w w' := by
  obtain ⟨ab, cb, hbody, -, -⟩ := id h.2.1
  obtain ⟨rn, rp, ra, rt, rk, ren, rev, rei, rb, rl, rat⟩ := r
  dsimp only at hbody
  subst hbody
  unfold ruleV
  obtain ⟨wb, hwb⟩ : ∃ x : World, x = w.alloc (.cells (ruleCells ⟨rn, rp, ra, rt, rk, ren, rev, rei, .slice ab rl.length cb, rl, rat⟩) 27) := ⟨_, rfl⟩
  have b0 : Below w.heap.size w wb := by subst hwb; exact below_new _ _
  have hxR := fun w' (hb : Below wb.heap.size wb w') => ruleBox_at (w := w) (r := ⟨rn, rp, ra, rt, rk, ren, rev, rei, .slice ab rl.length cb, rl, rat⟩) (w' := w') (by subst hwb; exact hb)
  unfold ruleCells at hwb
  dsimp only at hwb hxR
  go_enter Try.func4, Try.ntmps4
  go_wp2_with fail
  rw [← hwb]
  clear hwb
  refine (head_any _).mono ?_
  rintro e w1 ⟨rfl, b1⟩
  obtain ⟨r0, r1, r2, r3, r4, r5, r6, r7, r8⟩ := hxR _ b1
  have c1 := below_trans b0 b1
  go_wp2_with fail
  refine (Small_any ⟨rn, rp, ra, rt, rk, ren, rev, rei, .slice ab rl.length cb, rl, rat⟩ _ (h.keep (keeps_below c1))).mono ?_
  rintro e w2 ⟨rfl, b2⟩
  have d2 := below_trans b1 b2
  have c2 := below_trans b0 d2
  cases hsm : small ⟨rn, rp, ra, rt, rk, ren, rev, rei, .slice ab rl.length cb, rl, rat⟩
  · go_wp2
    go_ret
    exact ⟨rfl, c2⟩
  have hfit := small_fits hsm
  have hfit1 : rl.length ≤ 20 := hfit.1
  clear r0 r1 r2 r3 r4 r5 r6 r7 r8
  go_wp2_with fail
  refine (few_any v l _ (hs.keep (keeps_below c2))).mono ?_
  rintro e w3 ⟨rfl, b3⟩
  have d3 := below_trans d2 b3
  have c3 := below_trans b0 d3
  by_cases hfew : l.length ≤ 20
  case neg =>
    have hd : decide (l.length ≤ 20) = false := decide_eq_false hfew
    go_wp2
    go_ret
    exact ⟨rfl, c3⟩
  have hd : decide (l.length ≤ 20) = true := decide_eq_true hfew
  have hl1 : l.length ≤ 1000 := by omega
  have hb12 : rl.length ≤ 1000 := by omega
  obtain ⟨r0, r1, r2, r3, r4, r5, r6, r7, r8⟩ := hxR _ d3
  go_wp2_with fail
  refine (Order_any ⟨rn, rp, ra, rt, rk, ren, rev, rei, .slice ab rl.length cb, rl, rat⟩ v l _ (h.keep (keeps_below c3)) (hs.keep (keeps_below c3)) hfit hl1).mono ?_
  clear hd
  rintro e w4 ⟨⟨ve, rfl, hve⟩, b4⟩
  have d4 := below_trans d3 b4
  have c4 := below_trans b0 d4
  clear r0 r1 r2 r3 r4 r5 r6 r7 r8
  obtain ⟨r0, r1, r2, r3, r4, r5, r6, r7, r8⟩ := hxR _ d4
  cases ho : order (ofList l) rl with
  | none =>
    have hR : orderR ⟨rn, rp, ra, rt, rk, ren, rev, rei, .slice ab rl.length cb, rl, rat⟩ l = ([], 80) := by simp [orderR, ho]
    rw [hR] at hve ⊢
    obtain ⟨pa, pc, rfl, -⟩ := hve
    have HO := Lib.hid ho
    clear ho hR
    go_wp2_with fail
    refine (permutation_any rl.length vp picks _ (hp.keep (keeps_below c4)) hpb hb12).mono ?_
    rintro e w5 ⟨g, L, rfl, hperm, hL, b5⟩
    have HP := Lib.hid hperm
    clear hperm
    have d5 := below_trans d4 b5
    have c5 := below_trans b0 d5
    clear r0 r1 r2 r3 r4 r5 r6 r7 r8
    obtain ⟨r0, r1, r2, r3, r4, r5, r6, r7, r8⟩ := hxR _ d5
    go_wp2_with fail
    refine (Evaluable_any ⟨rn, rp, ra, rt, rk, ren, rev, rei, .slice ab rl.length cb, rl, rat⟩ v l _ (zs L) _ (h.keep (keeps_below c5)) (hs.keep (keeps_below c5)) (hL.is (by omega)) hfit hl1).mono ?_
    rintro e w6 ⟨rfl, b6⟩
    cases he : evaluable (ofList l) rl (zs L)
    · go_wp2
      go_ret
      exact ⟨rfl, below_trans c5 b6⟩
    · obtain ⟨out, h1, _⟩ := order_least he
      rw [HO.out] at h1
      cases h1
  | some out =>
    have hR : orderR ⟨rn, rp, ra, rt, rk, ren, rev, rei, .slice ab rl.length cb, rl, rat⟩ l = (zs out, 0) := by simp [orderR, ho]
    rw [hR] at hve ⊢
    have hev := (order_evaluable ho).1
    have HO := Lib.hid ho
    clear ho hR
    go_wp2_with fail
    refine (Evaluable_any ⟨rn, rp, ra, rt, rk, ren, rev, rei, .slice ab rl.length cb, rl, rat⟩ v l _ (zs out) _ (h.keep (keeps_below c4)) (hs.keep (keeps_below c4)) hve hfit hl1).mono ?_
    rw [hev]
    clear hev
    rintro e w5 ⟨rfl, b5⟩
    have d5 := below_trans d4 b5
    have c5 := below_trans b0 d5
    clear r0 r1 r2 r3 r4 r5 r6 r7 r8
    obtain ⟨r0, r1, r2, r3, r4, r5, r6, r7, r8⟩ := hxR _ d5
    go_wp2_with fail
    refine (permutation_any rl.length vp picks _ (hp.keep (keeps_below c5)) hpb hb12).mono ?_
    rintro e w6 ⟨g, L, rfl, hperm, hL, b6⟩
    have HP := Lib.hid hperm
    clear hperm
    have d6 := below_trans d5 b6
    have c6 := below_trans b0 d6
    clear r0 r1 r2 r3 r4 r5 r6 r7 r8
    obtain ⟨r0, r1, r2, r3, r4, r5, r6, r7, r8⟩ := hxR _ d6
    go_wp2_with fail
    refine (Evaluable_any ⟨rn, rp, ra, rt, rk, ren, rev, rei, .slice ab rl.length cb, rl, rat⟩ v l _ (zs L) _ (h.keep (keeps_below c6)) (hs.keep (keeps_below c6)) (hL.is (by omega)) hfit hl1).mono ?_
    rintro e w7 ⟨rfl, b7⟩
    cases he : evaluable (ofList l) rl (zs L)
    · go_wp2
      go_ret
      exact ⟨rfl, below_trans c6 b7⟩
    · obtain ⟨out', h1, h2, h3⟩ := order_least he
      rw [HO.out] at h1
      obtain rfl : out = out' := Option.some.inj h1
      rw [zs_length, hL.1] at h2
      have hve7 := hve.keep (keeps_below (below_trans b5 (below_trans b6 b7)))
      have hLi := (hL.is (by omega)).keep (keeps_below b7)
      obtain ⟨pa, pc, rfl⟩ := slice_of hve
      have hlen : ((out.length : Int) == (rl.length : Int)) = true := by rw [h2]; exact beq_self_eq_true _
      have H2 := Lib.hid h2
      clear h1 h2 he
      have hless := less_any _ _ (zs L) (zs out) w7 hLi hve7
      rw [h3] at hless
      clear h3
      go_wp2_with fail
      refine hless.mono ?_
      rintro e w8 ⟨rfl, b8⟩
      go_wp2
      go_ret
      exact ⟨rfl, below_trans c6 (below_trans b7 b8)⟩
end Go.Proofs.Ytnibgmmoebmnlaa
