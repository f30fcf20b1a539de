/- The walk of the law SafetyMatchesReference. -/
import Derived.Test.YtnibgmmoebmnlaaWr
namespace Go.Proofs.Ytnibgmmoebmnlaa
open Go.RowKit
theorem small_fits {r : Rl} (h : small r = true) : Fits r := ⟨by have := (small_parts h).1; omega, (small_parts h).2.2⟩
theorem names_same {va vb : Value} {a b : List Nm} {w : World} (ha : IsNames w va a) (hb : IsNames w vb b) (h : a = b) : Calls Try.prog 18 #[va, vb] w fun e w' => e = .returned (.bool true) ∧ Below w.heap.size w w' := by
  subst h; exact names_yes ha hb
theorem ints_yes {va vb : Value} {a : List Int} {w : World} (ha : IsInts w va a) (hb : IsInts w vb a) : Calls Try.prog 17 #[va, vb] w fun e w' => e = .returned (.bool true) ∧ Below w.heap.size w w' := by
  have := Ints_any va vb a a w ha hb
  rwa [decide_eq_true rfl] at this
theorem ev19 {r : Rl} {v : Value} {l : List Nm} {vi : Value} {ord : List Int} {w : World} {Q : Ending → World → Prop} (h : RuleOk w r) (hs : IsNames w v l) (ho : IsInts w vi ord) (hf : Fits r) (hl : l.length ≤ 1000)
    (k : ∀ w', Below w.heap.size w w' → Q (.returned (.bool (evaluable (ofList l) r.lits ord))) w') : Calls Try.prog 19 #[ruleV r, v, vi] w Q :=
  (Evaluable_any r v l vi ord w h hs ho hf hl).mono fun e w' ⟨he, h2⟩ => by subst he; exact k w' h2
theorem ev20 {r : Rl} {v : Value} {l : List Nm} {vi : Value} {ord : List Int} {w : World} {Q : Ending → World → Prop} (h : RuleOk w r) (hs : IsNames w v l) (ho : IsInts w vi ord) (hf : Fits r) (hl : l.length ≤ 1000)
    (k : ∀ w', Below w.heap.size w w' → Q (.returned (.bool (evaluable (ofList l) r.lits ord))) w') : Calls Try.prog 20 #[ruleV r, v, vi] w Q :=
  (rEvaluable_any r v l vi ord w h hs ho hf hl).mono fun e w' ⟨he, h2⟩ => by subst he; exact k w' h2
theorem ck22 {p : Pg} {w : World} {Q : Ending → World → Prop} (h : IsRules w p.rules p.rls) (hf : ∀ r ∈ p.rls, Fits r)
    (k : ∀ v w', IsDiags w' v (chk p.rls) → Below w.heap.size w w' → Q (.returned v) w') : Calls Try.prog 22 #[progV p] w Q :=
  (Check_any p w h hf).mono fun e w' ⟨⟨v, he, h1⟩, h2⟩ => by subst he; exact k v w' h1 h2
theorem ck23 {p : Pg} {w : World} {Q : Ending → World → Prop} (h : IsRules w p.rules p.rls) (hf : ∀ r ∈ p.rls, Fits r)
    (k : ∀ v w', IsDiags w' v (chk p.rls) → Below w.heap.size w w' → Q (.returned v) w') : Calls Try.prog 23 #[progV p] w Q :=
  (rCheck_any p w h hf).mono fun e w' ⟨⟨v, he, h1⟩, h2⟩ => by subst he; exact k v w' h1 h2
theorem dg21 {va vb : Value} {a : List (Int × Int)} {w : World} {Q : Ending → World → Prop} (ha : IsDiags w va a) (hb : IsDiags w vb a)
    (k : ∀ w', Below w.heap.size w w' → Q (.returned (.bool true)) w') : Calls Try.prog 21 #[va, vb] w Q :=
  (diags_yes ha hb).mono fun e w' ⟨he, h2⟩ => by subst he; exact k w' h2
set_option maxHeartbeats 4000000 in
set_option maxRecDepth 100000 in
theorem law3_any (r : Rl) (v : Value) (l : List Nm) (vi : Value) (ord : List Int) (p : Pg) (w : World) (h : RuleOk w r) (hs : IsNames w v l) (ho : IsInts w vi ord) (hp : IsRules w p.rules p.rls) :
    Calls Try.prog 3 #[ruleV r, v, vi, progV p] w fun e w' => e = .returned (.bool true) ∧ Below w.heap.size w w' := by
  have hp0 := hp
  obtain ⟨⟨ap, cp, hpr, hprows, hpm⟩, hpok⟩ := hp
  have ho0 := ho
  obtain ⟨ao, co, rfl, -, hom⟩ := ho
  obtain ⟨pl, pf, pp, pr, rs⟩ := p
  dsimp only at *
  subst hpr
  unfold ruleV progV
  obtain ⟨wb, hwb⟩ : ∃ x : World, x = (w.alloc (.cells (ruleCells r) 27)).alloc (.cells #[pl, pf, pp, .slice ap rs.length cp] 35) := ⟨_, rfl⟩
  have bb : Below (w.alloc (.cells (ruleCells r) 27)).heap.size (w.alloc (.cells (ruleCells r) 27)) wb := by subst hwb; exact below_new _ _
  have b0 : Below w.heap.size w wb := below_trans (below_new _ _) bb
  have hxR := fun w' (hb : Below wb.heap.size wb w') => ruleBox_at (r := r) (below_trans bb hb)
  have hxP : ∀ w', Below wb.heap.size wb w' → w'.cell? ⟨w.heap.size + 1, 0, none⟩ = some pl ∧ w'.cell? ⟨w.heap.size + 1, 1, none⟩ = some pf ∧ w'.cell? ⟨w.heap.size + 1, 2, none⟩ = some pp ∧ w'.cell? ⟨w.heap.size + 1, 3, none⟩ = some (.slice ap rs.length cp) := by
    intro w' hb
    subst hwb
    have e : (w.alloc (.cells (ruleCells r) 27)).heap.size = w.heap.size + 1 := by simp
    rw [← e]
    exact ⟨boxed (j := 0) rfl hb, boxed (j := 1) rfl hb, boxed (j := 2) rfl hb, boxed (j := 3) rfl hb⟩
  unfold ruleCells at hwb
  go_enter Try.func3, Try.ntmps3
  go_wp2_with fail
  rw [← hwb]
  clear hwb bb
  refine (head_any _).mono ?_
  rintro e w1 ⟨rfl, b1⟩
  obtain ⟨r0, r1, r2, r3, r4, r5, r6, r7, r8⟩ := hxR _ b1
  obtain ⟨p0, p1, p2, p3⟩ := hxP _ b1
  have c1 := below_trans b0 b1
  go_wp2_with fail
  refine (Small_any r _ (h.keep (keeps_below c1))).mono ?_
  rintro e w2 ⟨rfl, b2⟩
  have d2 := below_trans b1 b2
  have c2 := below_trans b0 d2
  cases hsm : small r
  · go_wp2
    go_ret
    exact ⟨rfl, c2⟩
  have hfit := small_fits hsm
  clear r0 r1 r2 r3 r4 r5 r6 r7 r8 p0 p1 p2 p3
  go_wp2_with fail
  refine (few_any v l _ (hs.keep (keeps_below c2))).mono ?_
  rintro e w3 ⟨rfl, b3⟩
  have d3 := below_trans d2 b3
  have c3 := below_trans b0 d3
  obtain ⟨p0, p1, p2, p3⟩ := hxP _ d3
  by_cases hfew : l.length ≤ 20
  case neg =>
    have hd : decide (l.length ≤ 20) = false := decide_eq_false hfew
    go_wp2
    go_ret
    exact ⟨rfl, c3⟩
  have hd : decide (l.length ≤ 20) = true := decide_eq_true hfew
  by_cases ho20 : ord.length ≤ 20
  case neg =>
    go_wp2
    go_ret
    exact ⟨rfl, c3⟩
  by_cases hp30 : rs.length ≤ 30
  case neg =>
    go_wp2
    go_ret
    exact ⟨rfl, c3⟩
  go_wp2
  clear hd
  go_loopw [10] (fun iv wr => ∃ k : Nat, k ≤ rs.length ∧ iv = .int .i64 k ∧ Hid (∀ x ∈ rs.take k, small x = true) ∧ Below w3.heap.size w3 wr) (fun iv _ => rs.length - (intOf iv).toNat)
  case atStart => exact ⟨0, by simp, rfl, Lib.hid (by simp), Below.refl _ _⟩
  case round =>
    obtain ⟨k, hk, rfl, HN, b4⟩ := hrel
    have d4 := below_trans d3 b4
    have c4 := below_trans b0 d4
    clear p0 p1 p2 p3
    obtain ⟨p0, p1, p2, p3⟩ := hxP _ d4
    by_cases hlt : k < rs.length
    · obtain ⟨b', off, rfl, q0, q1, q2, q3, q4, q5, q6, q7, q8⟩ := rules_at (hprows.keep (keeps_below c4)) (List.getElem?_eq_getElem hlt)
      have hr := hpok rs[k] (List.getElem_mem hlt)
      have hno : small rs[k] = true → Hid (∀ x ∈ rs.take (k + 1), small x = true) := fun e => Lib.hid (take_ext hlt HN.out e)
      generalize rs[k] = x at *
      go_wp2_with fail
      refine (Small_any x _ (hr.keep (keeps_below c4))).mono ?_
      rintro e w5 ⟨rfl, b5⟩
      cases hsx : small x
      · go_wp2
        go_ret
        exact ⟨rfl, below_trans c4 b5⟩
      · have HN' := hno hsx
        clear hno
        go_wp2
        go_roundw
        case rel => exact ⟨k + 1, by omega, by go_num, HN', below_trans b4 b5⟩
        case measure => simp [intOf]; omega
    · have he : k = rs.length := by omega
      have hfits : ∀ x ∈ rs, Fits x := by
        have hn := HN.out
        rw [he, List.take_length] at hn
        exact fun x hx => small_fits (hn x hx)
      clear he HN
      obtain ⟨w4, rfl⟩ : ∃ x : World, x = wr := ⟨_, rfl⟩
      obtain ⟨r0, r1, r2, r3, r4, r5, r6, r7, r8⟩ := hxR _ d4
      go_wp2_with fail
      refine (Vars_any r _ (h.keep (keeps_below c4)) hfit).mono ?_
      rintro e w5 ⟨⟨va, vb, rfl, hva, hvb⟩, b5⟩
      have d5 := below_trans d4 b5
      have c5 := below_trans b0 d5
      clear r0 r1 r2 r3 r4 r5 r6 r7 r8
      obtain ⟨r0, r1, r2, r3, r4, r5, r6, r7, r8⟩ := hxR _ d5
      go_wp2_with fail
      refine (rVars_any r _ (h.keep (keeps_below c5)) hfit).mono ?_
      rintro e w6 ⟨⟨vc, vd, rfl, hvc, hvd⟩, b6⟩
      have d6 := below_trans d5 b6
      have c6 := below_trans b0 d6
      clear r0 r1 r2 r3 r4 r5 r6 r7 r8
      obtain ⟨r0, r1, r2, r3, r4, r5, r6, r7, r8⟩ := hxR _ d6
      go_wp2_with fail
      refine (Order_any r v l _ (h.keep (keeps_below c6)) (hs.keep (keeps_below c6)) hfit (by omega)).mono ?_
      rintro e w7 ⟨⟨ve, rfl, hve⟩, b7⟩
      have d7 := below_trans d6 b7
      have c7 := below_trans b0 d7
      clear r0 r1 r2 r3 r4 r5 r6 r7 r8
      obtain ⟨r0, r1, r2, r3, r4, r5, r6, r7, r8⟩ := hxR _ d7
      go_wp2_with fail
      refine (rOrder_any r v l _ (h.keep (keeps_below c7)) (hs.keep (keeps_below c7)) hfit (by omega)).mono ?_
      rintro e w8 ⟨⟨vf, rfl, hvf⟩, b8⟩
      have d8 := below_trans d7 b8
      have c8 := below_trans b0 d8
      clear r0 r1 r2 r3 r4 r5 r6 r7 r8
      generalize orderR r l = R at *
      obtain ⟨out, code⟩ := R
      dsimp only at *
      go_wp2_with fail
      refine (ints_yes (hve.keep (keeps_below b8)) hvf).mono ?_
      rintro e w9 ⟨rfl, b9⟩
      go_wp2_with fail
      refine (names_same (hva.keep (keeps_below (below_trans (below_trans b6 b7) (below_trans b8 b9)))) (hvc.keep (keeps_below (below_trans b7 (below_trans b8 b9)))) rfl).mono ?_
      rintro e w10 ⟨rfl, b10⟩
      go_wp2_with fail
      refine (names_same (hvb.keep (keeps_below (below_trans (below_trans b6 b7) (below_trans (below_trans b8 b9) b10)))) (hvd.keep (keeps_below (below_trans b7 (below_trans (below_trans b8 b9) b10)))) rfl).mono ?_
      rintro e w11 ⟨rfl, b11⟩
      have d11 := below_trans d8 (below_trans (below_trans b9 b10) b11)
      have c11 := below_trans b0 d11
      have HS : ∀ w', Below wb.heap.size wb w' → (fun w' => w'.cell? ⟨w.heap.size, 0, none⟩ = some (.string r.name.1) ∧ w'.cell? ⟨w.heap.size, 1, none⟩ = some (.int .i64 r.pred) ∧ w'.cell? ⟨w.heap.size, 2, none⟩ = some r.args ∧ w'.cell? ⟨w.heap.size, 3, none⟩ = some (.int .i64 r.ekind) ∧
        w'.cell? ⟨w.heap.size, 4, none⟩ = some (.string r.ename.1) ∧ w'.cell? ⟨w.heap.size, 5, none⟩ = some (.string r.evar.1) ∧ w'.cell? ⟨w.heap.size, 6, none⟩ = some (.int .i64 r.eindex) ∧ w'.cell? ⟨w.heap.size, 7, none⟩ = some r.body ∧ w'.cell? ⟨w.heap.size, 8, none⟩ = some (.int .i64 r.at_) ∧
        w'.cell? ⟨w.heap.size + 1, 0, none⟩ = some pl ∧ w'.cell? ⟨w.heap.size + 1, 1, none⟩ = some pf ∧ w'.cell? ⟨w.heap.size + 1, 2, none⟩ = some pp ∧ w'.cell? ⟨w.heap.size + 1, 3, none⟩ = some (.slice ap rs.length cp)) w' := by
        intro w' hb
        obtain ⟨r0, r1, r2, r3, r4, r5, r6, r7, r8⟩ := hxR _ hb
        exact ⟨r0, r1, r2, r3, r4, r5, r6, r7, r8, hxP _ hb⟩
      dsimp only at HS
      have hKR := fun w' (hb : Below wb.heap.size wb w') => RuleOk.keep h (keeps_below (below_trans b0 hb))
      have hKS := fun w' (hb : Below wb.heap.size wb w') => IsNames.keep hs (keeps_below (below_trans b0 hb))
      have hKO := fun w' (hb : Below wb.heap.size wb w') => IsInts.keep ho0 (keeps_below (below_trans b0 hb))
      have hKP := fun w' (hb : Below wb.heap.size wb w') => IsRules.keep hp0 (keeps_below (below_trans b0 hb))
      have hl1 : l.length ≤ 1000 := by omega
      have HF := Lib.hid hfits
      clear hxR hxP hfits
      go_upto_region 15 with fail
      go_region_held3 (fun w' => w'.cell? ⟨w.heap.size, 0, none⟩ = some (.string r.name.1) ∧ w'.cell? ⟨w.heap.size, 1, none⟩ = some (.int .i64 r.pred) ∧ w'.cell? ⟨w.heap.size, 2, none⟩ = some r.args ∧ w'.cell? ⟨w.heap.size, 3, none⟩ = some (.int .i64 r.ekind) ∧
        w'.cell? ⟨w.heap.size, 4, none⟩ = some (.string r.ename.1) ∧ w'.cell? ⟨w.heap.size, 5, none⟩ = some (.string r.evar.1) ∧ w'.cell? ⟨w.heap.size, 6, none⟩ = some (.int .i64 r.eindex) ∧ w'.cell? ⟨w.heap.size, 7, none⟩ = some r.body ∧ w'.cell? ⟨w.heap.size, 8, none⟩ = some (.int .i64 r.at_) ∧
        w'.cell? ⟨w.heap.size + 1, 0, none⟩ = some pl ∧ w'.cell? ⟨w.heap.size + 1, 1, none⟩ = some pf ∧ w'.cell? ⟨w.heap.size + 1, 2, none⟩ = some pp ∧ w'.cell? ⟨w.heap.size + 1, 3, none⟩ = some (.slice ap rs.length cp))
        (first | exact HS _ (by with_reducible (repeat (first | assumption | exact Below.refl _ _ | refine below_alloc' ?_ | refine below_drew' ?_ | refine below_step (by assumption) ?_))))
        (first
          | (go_at_call 21; refine dg21 (IsDiags.keep hG (keeps_below (by with_reducible (repeat (first | assumption | exact Below.refl _ _ | refine below_alloc' ?_ | refine below_drew' ?_ | refine below_step (by assumption) ?_))))) (IsDiags.keep hH (keeps_below (by with_reducible (repeat (first | assumption | exact Below.refl _ _ | refine below_alloc' ?_ | refine below_drew' ?_ | refine below_step (by assumption) ?_))))) ?_; intro wI bI)
          | (go_at_call 22; refine ck22 (p := ⟨pl, pf, pp, .slice ap rs.length cp, rs⟩) (hKP _ (by with_reducible (repeat (first | assumption | exact Below.refl _ _ | refine below_alloc' ?_ | refine below_drew' ?_ | refine below_step (by assumption) ?_)))) HF.out ?_; intro vG wG hG bG)
          | (go_at_call 23; refine ck23 (p := ⟨pl, pf, pp, .slice ap rs.length cp, rs⟩) (hKP _ (by with_reducible (repeat (first | assumption | exact Below.refl _ _ | refine below_alloc' ?_ | refine below_drew' ?_ | refine below_step (by assumption) ?_)))) HF.out ?_; intro vH wH hH bH)
          | (go_at_call 19; refine ev19 (r := r) (hKR _ (by with_reducible (repeat (first | assumption | exact Below.refl _ _ | refine below_alloc' ?_ | refine below_drew' ?_ | refine below_step (by assumption) ?_)))) (hKS _ (by with_reducible (repeat (first | assumption | exact Below.refl _ _ | refine below_alloc' ?_ | refine below_drew' ?_ | refine below_step (by assumption) ?_)))) (hKO _ (by with_reducible (repeat (first | assumption | exact Below.refl _ _ | refine below_alloc' ?_ | refine below_drew' ?_ | refine below_step (by assumption) ?_)))) hfit hl1 ?_; intro wE bE)
          | (go_at_call 20; refine ev20 (r := r) (hKR _ (by with_reducible (repeat (first | assumption | exact Below.refl _ _ | refine below_alloc' ?_ | refine below_drew' ?_ | refine below_step (by assumption) ?_)))) (hKS _ (by with_reducible (repeat (first | assumption | exact Below.refl _ _ | refine below_alloc' ?_ | refine below_drew' ?_ | refine below_step (by assumption) ?_)))) (hKO _ (by with_reducible (repeat (first | assumption | exact Below.refl _ _ | refine below_alloc' ?_ | refine below_drew' ?_ | refine below_step (by assumption) ?_)))) hfit hl1 ?_; intro wF bF))
      all_goals
        go_wp2
        go_ret
        exact ⟨rfl, below_trans b0 (by with_reducible (repeat (first | assumption | exact Below.refl _ _ | refine below_alloc' ?_ | refine below_drew' ?_ | refine below_step (by assumption) ?_)))⟩
end Go.Proofs.Ytnibgmmoebmnlaa
