/- The walk of the law SafetyVars. -/
import Derived.Test.YtnibgmmoebmnlaaAppB
import Derived.Test.YtnibgmmoebmnlaaWlB
import Derived.Test.YtnibgmmoebmnlaaPlainC
import Derived.Deep.RegionHeld3
import Derived.Deep.CutRange
namespace Go.Proofs.Ytnibgmmoebmnlaa
open Go.RowKit
theorem in_ts {v : Value} {l : List Nm} {x : Nm} {b : Bool} {w : World} {Q : Ending → World → Prop} (h : IsNames w v l) (hb : decide (x ∈ l) = b)
    (k : ∀ w', Below w.heap.size w w' → Q (.returned (.bool b)) w') : Calls Try.prog 29 #[v, .string x.1] w Q :=
  (In_any v l x w h).mono fun e w' ⟨he, h2⟩ => by subst he; rw [hb]; exact k w' h2
theorem occO_ts {r : Rl} {x : Nm} {w : World} {Q : Ending → World → Prop} (h : RuleOk w r) (hb : (r.lits.any fun q => q.targs.any fun t => decide (t.var = x)) = true)
    (k : ∀ w', Below w.heap.size w w' → Q (.returned (.bool true)) w') : Calls Try.prog 30 #[ruleV r, .string x.1, .bool false] w Q :=
  (occursO_any r x w h).mono fun e w' ⟨he, h2⟩ => by subst he; rw [hb]; exact k w' h2
theorem occL_ts {r : Rl} {x : Nm} {w : World} {Q : Ending → World → Prop} (h : RuleOk w r) (hb : (r.lits.any fun q => decide (q.kind = 1) && decide (q.bind = x)) = true)
    (k : ∀ w', Below w.heap.size w w' → Q (.returned (.bool true)) w') : Calls Try.prog 30 #[ruleV r, .string x.1, .bool true] w Q :=
  (occursL_any r x w h).mono fun e w' ⟨he, h2⟩ => by subst he; rw [hb]; exact k w' h2
theorem order_numbers {s : Nm → Bool} {body : List Lt} {out : List Nat} (h : order s body = some out) : out.Nodup ∧ (∀ i ∈ out, i < body.length) ∧ body.length = out.length := by
  obtain ⟨he, hlen⟩ := order_evaluable h
  unfold evaluable at he
  simp only [Bool.and_eq_true, decide_eq_true_eq] at he
  have hnd := evalGo_nodup _ _ he.2
  rw [zs_toNat] at hnd
  exact ⟨hnd.1, fun i hi => by
    have := (hnd.2 (i : Int) (List.mem_map.2 ⟨i, hi, rfl⟩)).2.2
    simpa using this, hlen.symm⟩
theorem numbers_n (v : Value) (out : List Nat) (n : Nat) (w : World) (h : IsInts w v (zs out)) (hn : n = out.length) (hnd : out.Nodup) (hlt : ∀ i ∈ out, i < n) (h1 : n ≤ 1000) :
    Calls Try.prog 31 #[v, .int .i64 n] w fun e w' => e = .returned (.bool true) ∧ Below w.heap.size w w' := by
  subst hn; exact numbers_yes v out w h hnd hlt h1
set_option maxHeartbeats 64000000 in
set_option maxRecDepth 100000 in
theorem law9_any (r : Rl) (v : Value) (l : List Nm) (x : Nm) (w : World) (h : RuleOk w r) (hs : IsNames w v l) :
    Calls Try.prog 9 #[ruleV r, v, .string x.1] w fun e w' => e = .returned (.bool true) ∧ Below w.heap.size w w' := by
  obtain ⟨aa, ca, hargs, -, -⟩ := id h.1
  obtain ⟨ab, cb, hbody, hlits, -⟩ := id h.2.1
  have hok := h.2.2
  obtain ⟨rn, rp, ra, rt, rk, ren, rev, rei, rb, rl, rat⟩ := r
  dsimp only at hbody hargs hlits hok
  subst hbody hargs
  unfold ruleV
  obtain ⟨wb, hwb⟩ : ∃ x : World, x = w.alloc (.cells (ruleCells ⟨rn, rp, .slice aa rt.length ca, rt, rk, ren, rev, rei, .slice ab rl.length cb, rl, rat⟩) 27) := ⟨_, rfl⟩
  have b0 : Below w.heap.size w wb := by subst hwb; exact below_new _ _
  have hxR := fun w' (hb : Below wb.heap.size wb w') => ruleBox_at (w := w) (r := ⟨rn, rp, .slice aa rt.length ca, rt, rk, ren, rev, rei, .slice ab rl.length cb, rl, rat⟩) (w' := w') (by subst hwb; exact hb)
  unfold ruleCells at hwb
  dsimp only at hwb hxR
  go_enter Try.func9, Try.ntmps9
  go_wp2_with fail
  rw [← hwb]
  clear hwb
  refine (head_any _).mono ?_
  rintro e w1 ⟨rfl, b1⟩
  obtain ⟨r0, r1, r2, r3, r4, r5, r6, r7, r8⟩ := hxR _ b1
  have c1 := below_trans b0 b1
  go_wp2_with fail
  refine (Small_any ⟨rn, rp, .slice aa rt.length ca, rt, rk, ren, rev, rei, .slice ab rl.length cb, rl, rat⟩ _ (h.keep (keeps_below c1))).mono ?_
  rintro e w2 ⟨rfl, b2⟩
  have d2 := below_trans b1 b2
  have c2 := below_trans b0 d2
  cases hsm : small ⟨rn, rp, .slice aa rt.length ca, rt, rk, ren, rev, rei, .slice ab rl.length cb, rl, rat⟩
  · go_wp2
    go_ret
    exact ⟨rfl, c2⟩
  have hfit := small_fits hsm
  have hfit1 : rl.length ≤ 20 := hfit.1
  have hfit2 : ∀ q ∈ rl, q.targs.length ≤ 6 := hfit.2
  clear r0 r1 r2 r3 r4 r5 r6 r7 r8
  go_wp2_with fail
  refine (few_any v l _ (hs.keep (keeps_below c2))).mono ?_
  rintro e w3 ⟨rfl, b3⟩
  have d3 := below_trans d2 b3
  have c3 := below_trans b0 d3
  by_cases hfew : l.length ≤ 20
  case neg =>
    have hd : decide (l.length ≤ 20) = false := decide_eq_false hfew
    go_wp2
    go_ret
    exact ⟨rfl, c3⟩
  have hd : decide (l.length ≤ 20) = true := decide_eq_true hfew
  have hl1 : l.length ≤ 1000 := by omega
  have hb12 : rl.length ≤ 1000 := by omega
  obtain ⟨r0, r1, r2, r3, r4, r5, r6, r7, r8⟩ := hxR _ d3
  go_wp2_with fail
  refine (VarsC_any ⟨rn, rp, .slice aa rt.length ca, rt, rk, ren, rev, rei, .slice ab rl.length cb, rl, rat⟩ _ (h.keep (keeps_below c3)) hfit).mono ?_
  clear hd
  rintro e w4 ⟨⟨va, vb, rfl, hva, hvb⟩, b4⟩
  dsimp only at hva hvb
  have FA1 := Lib.hid (fun k (hk : k < (ordV rl).length) => ordV_ne hk)
  have FA2 := Lib.hid (fun k (hk : k < (ordV rl).length) => nodup_take (ordV_nodup rl) hk)
  have FA3 := Lib.hid (fun k (hk : k < (ordV rl).length) => ordV_occurs hk)
  have FA4 := Lib.hid (mem_ordV rl)
  have FA5 := ordV_le hfit2
  have FB1 := Lib.hid (fun k (hk : k < (latV rl).length) => latV_ne hk)
  have FB2 := Lib.hid (fun k (hk : k < (latV rl).length) => nodup_take (latV_nodup rl) hk)
  have FB3 := Lib.hid (fun k (hk : k < (latV rl).length) => latV_occurs hk)
  have FB4 := Lib.hid (mem_latV rl)
  have FB5 := latV_le rl
  have HA0 := Lib.hid (rfl : ordV rl = ordV rl)
  obtain ⟨A, hA⟩ : ∃ A, ordV rl = A := ⟨_, rfl⟩
  obtain ⟨B, hB⟩ : ∃ B, latV rl = B := ⟨_, rfl⟩
  rw [hA] at hva FA1 FA2 FA3 FA4 FA5
  rw [hB] at hvb FB1 FB2 FB3 FB4 FB5
  have HA := Lib.hid hA
  clear HA0 hA hB r0 r1 r2 r3 r4 r5 r6 r7 r8
  obtain ⟨aA, cA, rfl, hrA, hlA, hcA⟩ := hva
  obtain ⟨aB, cB, rfl, hrB, hlB, hcB⟩ := hvb
  have d4 := below_trans d3 b4
  have c4 := below_trans b0 d4
  unfold maxLen at hcA hcB
  go_wp2
  go_loopw [10] (fun iv wr => ∃ k : Nat, k ≤ A.length ∧ iv = .int .i64 k ∧ Below w4.heap.size w4 wr) (fun iv _ => A.length - (intOf iv).toNat)
  case atStart => exact ⟨0, by simp, rfl, Below.refl _ _⟩
  case round =>
    obtain ⟨k, hk, rfl, hb⟩ := hrel
    obtain ⟨wo, rfl⟩ : ∃ x : World, x = wr := ⟨_, rfl⟩
    have hbs := hb.size
    by_cases hlt : k < A.length
    · have hro := hrA.keep (keeps_below hb)
      have HI := fun (W : World) (hW : Below wo.heap.size wo W) => (names_take (hro.keep (keeps_below hW)) (Nat.le_of_lt hlt) cA (by omega)).keep (Keeps.refl W)
      obtain ⟨ba, oa, ea, -⟩ := hro.one (List.getElem?_eq_getElem hlt) rfl
      have HX := fun (W : World) (hW : Below wo.heap.size wo W) => (hro.keep (keeps_below hW)).one (List.getElem?_eq_getElem hlt) rfl
      have HIN := Lib.hid (decide_eq_false (FA2.out k hlt))
      have HOC := Lib.hid (FA3.out k hlt)
      have HNE := Lib.hid (FA1.out k hlt)
      generalize A[k] = y at *
      subst ea
      have hcell : ∀ W, Below wo.heap.size wo W → W.cell? ⟨ba, oa + k, none⟩ = some (.string y.1) := fun W hW => by
        obtain ⟨b2, o2, e2, c2⟩ := HX W hW
        simp only [Option.some.injEq, Addr.mk.injEq] at e2
        obtain ⟨rfl, rfl, -⟩ := e2
        exact c2
      clear HX
      obtain ⟨hnf, hnf'⟩ := nm_full HNE.out
      have HRO : ∀ W, Below wo.heap.size wo W → RuleOk W ⟨rn, rp, .slice aa rt.length ca, rt, rk, ren, rev, rei, .slice ab rl.length cb, rl, rat⟩ := fun W hW => h.keep (keeps_below (below_trans c4 (below_trans hb hW)))
      have HS : ∀ W, Below wo.heap.size wo W → (fun w' => w'.cell? ⟨ba, oa + k, none⟩ = some (.string y.1) ∧ w'.cell? ⟨w.heap.size, 0, none⟩ = some (.string rn.1) ∧ w'.cell? ⟨w.heap.size, 1, none⟩ = some (.int .i64 rp) ∧ w'.cell? ⟨w.heap.size, 2, none⟩ = some (.slice aa rt.length ca) ∧ w'.cell? ⟨w.heap.size, 3, none⟩ = some (.int .i64 rk) ∧ w'.cell? ⟨w.heap.size, 4, none⟩ = some (.string ren.1) ∧ w'.cell? ⟨w.heap.size, 5, none⟩ = some (.string rev.1) ∧ w'.cell? ⟨w.heap.size, 6, none⟩ = some (.int .i64 rei) ∧ w'.cell? ⟨w.heap.size, 7, none⟩ = some (.slice ab rl.length cb) ∧ w'.cell? ⟨w.heap.size, 8, none⟩ = some (.int .i64 rat)) W := fun W hW => ⟨hcell W hW, hxR _ (below_trans d4 (below_trans hb hW))⟩
      dsimp only at HS
      have g1 : (k : Int) < A.length := by omega
      have g2 : (k : Int) ≤ cA := by omega
      go_upto_region 8 with fail
      go_region_held3 (fun w' => w'.cell? ⟨ba, oa + k, none⟩ = some (.string y.1) ∧ w'.cell? ⟨w.heap.size, 0, none⟩ = some (.string rn.1) ∧ w'.cell? ⟨w.heap.size, 1, none⟩ = some (.int .i64 rp) ∧ w'.cell? ⟨w.heap.size, 2, none⟩ = some (.slice aa rt.length ca) ∧ w'.cell? ⟨w.heap.size, 3, none⟩ = some (.int .i64 rk) ∧ w'.cell? ⟨w.heap.size, 4, none⟩ = some (.string ren.1) ∧ w'.cell? ⟨w.heap.size, 5, none⟩ = some (.string rev.1) ∧ w'.cell? ⟨w.heap.size, 6, none⟩ = some (.int .i64 rei) ∧ w'.cell? ⟨w.heap.size, 7, none⟩ = some (.slice ab rl.length cb) ∧ w'.cell? ⟨w.heap.size, 8, none⟩ = some (.int .i64 rat))
        (first | exact HS _ (by with_reducible (repeat (first | assumption | exact Below.refl _ _ | refine below_alloc' ?_ | refine below_drew' ?_ | refine below_step (by assumption) ?_))))
        (first
          | (go_at_call 29; refine in_ts (HI _ (by with_reducible (repeat (first | assumption | exact Below.refl _ _ | refine below_alloc' ?_ | refine below_drew' ?_ | refine below_step (by assumption) ?_)))) HIN.out ?_; intro wG bG)
          | (go_at_call 30; refine occO_ts (r := ⟨rn, rp, .slice aa rt.length ca, rt, rk, ren, rev, rei, .slice ab rl.length cb, rl, rat⟩) (HRO _ (by with_reducible (repeat (first | assumption | exact Below.refl _ _ | refine below_alloc' ?_ | refine below_drew' ?_ | refine below_step (by assumption) ?_)))) HOC.out ?_; intro wH bH))
      all_goals
        go_wp2
        go_roundw
        case rel => exact ⟨k + 1, by omega, by go_num, below_trans hb (by with_reducible (repeat (first | assumption | exact Below.refl _ _ | refine below_alloc' ?_ | refine below_drew' ?_ | refine below_step (by assumption) ?_)))⟩
        case measure => simp [intOf]; omega
    · skip
      go_wp2
      go_loopw [11] (fun iv wr => ∃ k : Nat, k ≤ B.length ∧ iv = .int .i64 k ∧ Below w4.heap.size w4 wr) (fun iv _ => B.length - (intOf iv).toNat)
      case atStart => exact ⟨0, by simp, rfl, hb⟩
      case round =>
        obtain ⟨k, hk, rfl, hb⟩ := hrel
        obtain ⟨wo, rfl⟩ : ∃ x : World, x = wr := ⟨_, rfl⟩
        have hbs := hb.size
        by_cases hlt : k < B.length
        · have hro := hrB.keep (keeps_below hb)
          have HI := fun (W : World) (hW : Below wo.heap.size wo W) => (names_take (hro.keep (keeps_below hW)) (Nat.le_of_lt hlt) cB (by omega)).keep (Keeps.refl W)
          obtain ⟨ba, oa, ea, -⟩ := hro.one (List.getElem?_eq_getElem hlt) rfl
          have HX := fun (W : World) (hW : Below wo.heap.size wo W) => (hro.keep (keeps_below hW)).one (List.getElem?_eq_getElem hlt) rfl
          have HIN := Lib.hid (decide_eq_false (FB2.out k hlt))
          have HOC := Lib.hid (FB3.out k hlt)
          have HNE := Lib.hid (FB1.out k hlt)
          generalize B[k] = y at *
          subst ea
          have hcell : ∀ W, Below wo.heap.size wo W → W.cell? ⟨ba, oa + k, none⟩ = some (.string y.1) := fun W hW => by
            obtain ⟨b2, o2, e2, c2⟩ := HX W hW
            simp only [Option.some.injEq, Addr.mk.injEq] at e2
            obtain ⟨rfl, rfl, -⟩ := e2
            exact c2
          clear HX
          obtain ⟨hnf, hnf'⟩ := nm_full HNE.out
          have HRO : ∀ W, Below wo.heap.size wo W → RuleOk W ⟨rn, rp, .slice aa rt.length ca, rt, rk, ren, rev, rei, .slice ab rl.length cb, rl, rat⟩ := fun W hW => h.keep (keeps_below (below_trans c4 (below_trans hb hW)))
          have HS : ∀ W, Below wo.heap.size wo W → (fun w' => w'.cell? ⟨ba, oa + k, none⟩ = some (.string y.1) ∧ w'.cell? ⟨w.heap.size, 0, none⟩ = some (.string rn.1) ∧ w'.cell? ⟨w.heap.size, 1, none⟩ = some (.int .i64 rp) ∧ w'.cell? ⟨w.heap.size, 2, none⟩ = some (.slice aa rt.length ca) ∧ w'.cell? ⟨w.heap.size, 3, none⟩ = some (.int .i64 rk) ∧ w'.cell? ⟨w.heap.size, 4, none⟩ = some (.string ren.1) ∧ w'.cell? ⟨w.heap.size, 5, none⟩ = some (.string rev.1) ∧ w'.cell? ⟨w.heap.size, 6, none⟩ = some (.int .i64 rei) ∧ w'.cell? ⟨w.heap.size, 7, none⟩ = some (.slice ab rl.length cb) ∧ w'.cell? ⟨w.heap.size, 8, none⟩ = some (.int .i64 rat)) W := fun W hW => ⟨hcell W hW, hxR _ (below_trans d4 (below_trans hb hW))⟩
          dsimp only at HS
          have g1 : (k : Int) < B.length := by omega
          have g2 : (k : Int) ≤ cB := by omega
          go_upto_region 13 with fail
          go_region_held3 (fun w' => w'.cell? ⟨ba, oa + k, none⟩ = some (.string y.1) ∧ w'.cell? ⟨w.heap.size, 0, none⟩ = some (.string rn.1) ∧ w'.cell? ⟨w.heap.size, 1, none⟩ = some (.int .i64 rp) ∧ w'.cell? ⟨w.heap.size, 2, none⟩ = some (.slice aa rt.length ca) ∧ w'.cell? ⟨w.heap.size, 3, none⟩ = some (.int .i64 rk) ∧ w'.cell? ⟨w.heap.size, 4, none⟩ = some (.string ren.1) ∧ w'.cell? ⟨w.heap.size, 5, none⟩ = some (.string rev.1) ∧ w'.cell? ⟨w.heap.size, 6, none⟩ = some (.int .i64 rei) ∧ w'.cell? ⟨w.heap.size, 7, none⟩ = some (.slice ab rl.length cb) ∧ w'.cell? ⟨w.heap.size, 8, none⟩ = some (.int .i64 rat))
            (first | exact HS _ (by with_reducible (repeat (first | assumption | exact Below.refl _ _ | refine below_alloc' ?_ | refine below_drew' ?_ | refine below_step (by assumption) ?_))))
            (first
              | (go_at_call 29; refine in_ts (HI _ (by with_reducible (repeat (first | assumption | exact Below.refl _ _ | refine below_alloc' ?_ | refine below_drew' ?_ | refine below_step (by assumption) ?_)))) HIN.out ?_; intro wG bG)
              | (go_at_call 30; refine occL_ts (r := ⟨rn, rp, .slice aa rt.length ca, rt, rk, ren, rev, rei, .slice ab rl.length cb, rl, rat⟩) (HRO _ (by with_reducible (repeat (first | assumption | exact Below.refl _ _ | refine below_alloc' ?_ | refine below_drew' ?_ | refine below_step (by assumption) ?_)))) HOC.out ?_; intro wH bH))
          all_goals
            go_wp2
            go_roundw
            case rel => exact ⟨k + 1, by omega, by go_num, below_trans hb (by with_reducible (repeat (first | assumption | exact Below.refl _ _ | refine below_alloc' ?_ | refine below_drew' ?_ | refine below_step (by assumption) ?_)))⟩
            case measure => simp [intOf]; omega
        · skip
          go_wp2
          go_loopw [12] (fun iv wr => ∃ k : Nat, k ≤ rl.length ∧ iv = .int .i64 k ∧ Below w4.heap.size w4 wr) (fun iv _ => rl.length - (intOf iv).toNat)
          case atStart => exact ⟨0, by simp, rfl, hb⟩
          case round =>
            obtain ⟨k, hk, rfl, hb⟩ := hrel
            obtain ⟨wo, rfl⟩ : ∃ x : World, x = wr := ⟨_, rfl⟩
            have bW := below_trans d4 hb
            have cW := below_trans c4 hb
            by_cases hlt : k < rl.length
            · obtain ⟨-, -, -, -, -, -, -, r7, -⟩ := hxR _ bW
              obtain ⟨b', off, eab, q0, q1, q2, q3, q4, q5, q6, q7, q8⟩ := lits_at (hlits.keep (keeps_below cW)) (List.getElem?_eq_getElem hlt)
              have hq := hok rl[k] (List.getElem_mem hlt)
              have HB4 := Lib.hid (fun (h1 : rl[k].kind = 1) (h2 : rl[k].bind ≠ noName) => (FB4.out rl[k].bind).2 ⟨h2, rl[k], List.getElem_mem hlt, h1, rfl⟩)
              have HA4 := Lib.hid (fun (t : Tm) (ht : t ∈ rl[k].targs) (h2 : t.var ≠ noName) => (FA4.out t.var).2 ⟨h2, rl[k], List.getElem_mem hlt, t, ht, rfl⟩)
              generalize rl[k] = q at *
              obtain ⟨pa, pc, hqa, hqr, hqm⟩ := hq
              obtain ⟨qk, qn, qp, qa, qt, qb, qe, ql, qo, qat⟩ := q
              dsimp only at *
              subst hqa
              subst eab
              have g1 : (k : Int) < rl.length := by omega
              obtain ⟨wl, hwl⟩ : ∃ x : World, x = wo.alloc (.cells #[.int .i64 qk, .string qn.1, .int .i64 qp, .slice pa qt.length pc, .string qb.1, .string qe.1, .int .i64 ql, .int .i64 qo, .int .i64 qat] 58) := ⟨_, rfl⟩
              have bl : Below wo.heap.size wo wl := by subst hwl; exact below_new _ _
              have y0 : wl.cell? ⟨wo.heap.size, 0, none⟩ = some (.int .i64 qk) := by subst hwl; exact boxed (j := 0) rfl (Below.refl _ _)
              have y3 : wl.cell? ⟨wo.heap.size, 3, none⟩ = some (.slice pa qt.length pc) := by subst hwl; exact boxed (j := 3) rfl (Below.refl _ _)
              have y4 : wl.cell? ⟨wo.heap.size, 4, none⟩ = some (.string qb.1) := by subst hwl; exact boxed (j := 4) rfl (Below.refl _ _)
              go_upto_region 19 with fail
              rw [← hwl]
              clear hwl
              go_cut [119] from 105 to 119 (fun v119 wx => v119 = .bool false ∧ Below wl.heap.size wl wx)
              case first =>
                by_cases hk1 : qk = 1
                · by_cases hbn : qb = noName
                  · have hnb := nm_blank hbn
                    clear hbn
                    go_wp2
                    go_meet
                    case rel => exact ⟨rfl, Below.refl _ _⟩
                  · have HBM := Lib.hid (decide_eq_true (HB4.out hk1 hbn))
                    obtain ⟨hnf, hnf'⟩ := nm_full hbn
                    have HIB := hrB.keep (keeps_below (below_trans hb bl))
                    clear hbn
                    subst hk1
                    go_wp2_with fail
                    refine in_ts ⟨aB, cB, rfl, HIB, by omega⟩ HBM.out ?_
                    intro wG bG
                    go_wp2
                    go_meet
                    case rel => exact ⟨rfl, bG⟩
                · have qk1 := ne_beq hk1
                  clear hk1
                  go_wp2
                  go_meet
                  case rel => exact ⟨rfl, Below.refl _ _⟩
              case rest =>
                obtain ⟨rfl, hcut⟩ := hcut
                obtain ⟨wx, rfl⟩ : ∃ x : World, x = wc := ⟨_, rfl⟩
                have blx := below_trans bl hcut
                have z3 := cell_keep hcut y3
                go_wp2
                go_loopw [14] (fun iv wr2 => ∃ i : Nat, i ≤ qt.length ∧ iv = .int .i64 i ∧ Below wx.heap.size wx wr2) (fun iv _ => qt.length - (intOf iv).toNat)
                case atStart => exact ⟨0, by simp, rfl, Below.refl _ _⟩
                case round =>
                  obtain ⟨i, hi, rfl, hb2⟩ := hrel
                  have bx2 := below_trans blx hb2
                  have z32 := cell_keep hb2 z3
                  by_cases hlt2 : i < qt.length
                  · obtain ⟨bt, ot, ept, t0, -⟩ := terms_at (hqr.keep (keeps_below (below_trans cW bx2))) (List.getElem?_eq_getElem hlt2)
                    have HT4 := Lib.hid (HA4.out qt[i] (List.getElem_mem hlt2))
                    generalize qt[i] = t at *
                    subst ept
                    have g2 : (i : Int) < qt.length := by omega
                    by_cases hbn : t.var = noName
                    · have hnb := nm_blank hbn
                      clear hbn
                      go_wp2
                      go_roundw
                      case rel => exact ⟨i + 1, by omega, by go_num, hb2⟩
                      case measure => simp [intOf]; omega
                    · have HAM := Lib.hid (decide_eq_true (HT4.out hbn))
                      obtain ⟨hnf, hnf'⟩ := nm_full hbn
                      have HIA := hrA.keep (keeps_below (below_trans hb bx2))
                      clear hbn
                      go_wp2_with fail
                      refine in_ts ⟨aA, cA, rfl, HIA, by omega⟩ HAM.out ?_
                      intro wG bG
                      go_wp2
                      go_roundw
                      case rel => exact ⟨i + 1, by omega, by go_num, below_trans hb2 bG⟩
                      case measure => simp [intOf]; omega
                  · go_wp2
                    go_roundw
                    case rel => exact ⟨k + 1, by omega, by go_num, below_trans hb bx2⟩
                    case measure => simp [intOf]; omega
            · skip
              obtain ⟨r0, r1, r2, r3, r4, r5, r6, r7, r8⟩ := hxR _ bW
              go_wp2_with fail
              refine (Order_any ⟨rn, rp, .slice aa rt.length ca, rt, rk, ren, rev, rei, .slice ab rl.length cb, rl, rat⟩ v l _ (h.keep (keeps_below cW)) (hs.keep (keeps_below cW)) hfit hl1).mono ?_
              obtain ⟨RR, hR⟩ : ∃ RR, orderR ⟨rn, rp, .slice aa rt.length ca, rt, rk, ren, rev, rei, .slice ab rl.length cb, rl, rat⟩ l = RR := ⟨_, rfl⟩
              have HR := Lib.hid (show RR = match order (ofList l) rl with | some out => (zs out, 0) | none => ([], 80) from by rw [← hR]; rfl)
              rw [hR]
              clear hR
              obtain ⟨Ro, Rc⟩ := RR
              dsimp only
              rintro e w5 ⟨⟨ve, rfl, hve⟩, b5⟩
              have d5 := below_trans bW b5
              have c5 := below_trans b0 d5
              clear r0 r1 r2 r3 r4 r5 r6 r7 r8
              cases hO : order (ofList l) rl with
              | none =>
                have hRR : (Ro, Rc) = (([] : List Int), (80 : Int)) := by rw [HR.out, hO]
                simp only [Prod.mk.injEq] at hRR
                obtain ⟨rfl, rfl⟩ := hRR
                clear hO
                go_wp2
                go_ret
                exact ⟨rfl, c5⟩
              | some out =>
                have hRR : (Ro, Rc) = (zs out, (0 : Int)) := by rw [HR.out, hO]
                simp only [Prod.mk.injEq] at hRR
                obtain ⟨rfl, rfl⟩ := hRR
                have HN := Lib.hid (order_numbers hO)
                have HO := Lib.hid hO
                clear hO
                obtain ⟨r0, r1, r2, r3, r4, r5, r6, r7, r8⟩ := hxR _ d5
                by_cases hx : x = noName
                · have hnb := nm_blank hx
                  clear hx
                  go_wp2_with fail
                  refine (numbers_n ve out rl.length _ hve HN.out.2.2 HN.out.1 HN.out.2.1 (by omega)).mono ?_
                  rintro e w6 ⟨rfl, b6⟩
                  go_wp2
                  go_ret
                  exact ⟨rfl, below_trans c5 b6⟩
                · have HX := Lib.hid hx
                  obtain ⟨hnf, hnf'⟩ := nm_full hx
                  clear hx
                  go_wp2_with fail
                  refine (numbers_n ve out rl.length _ hve HN.out.2.2 HN.out.1 HN.out.2.1 (by omega)).mono ?_
                  rintro e w6 ⟨rfl, b6⟩
                  have d6 := below_trans d5 b6
                  have c6 := below_trans b0 d6
                  clear r0 r1 r2 r3 r4 r5 r6 r7 r8
                  obtain ⟨r0, r1, r2, r3, r4, r5, r6, r7, r8⟩ := hxR _ d6
                  have s6 := cell_lt r7
                  dsimp only at s6
                  obtain ⟨i0, hi0, hz0, hz1, hz2⟩ := info_parts info58'
                  have hsp := (small_parts hsm).1
                  dsimp only at hsp
                  obtain ⟨wq, hwq⟩ : ∃ y : World, y = w6.alloc (.cells #[.string rn.1, .int .i64 rp, .slice aa rt.length ca, .int .i64 rk, .string ren.1, .string rev.1, .int .i64 rei, .slice ab rl.length cb, .int .i64 rat] 27) := ⟨_, rfl⟩
                  have hq0 : QBox wq w6.heap.size (fun u => #[.string rn.1, .int .i64 rp, .slice aa rt.length ca, .int .i64 rk, .string ren.1, .string rev.1, .int .i64 rei, u, .int .i64 rat]) (.slice ab rl.length cb) := by subst hwq; exact heap_alloc_new w6 _
                  have bq : Below w6.heap.size w6 wq := by subst hwq; exact below_new _ _
                  have sq : w6.heap.size < wq.heap.size := by subst hwq; simp
                  go_upto_region 30 with fail
                  rw [← hwq]
                  clear hwq
                  have dq := below_trans d6 bq
                  have cq := below_trans b0 dq
                  clear r0 r1 r2 r3 r4 r5 r6 r7 r8
                  obtain ⟨-, -, -, -, -, -, -, r7, -⟩ := hxR _ dq
                  have hO0 : (wq.alloc (.cells #[] 58)).ownsRow wq.heap.size 58 9 (.slice (some ⟨wq.heap.size, 0, none⟩) 0 0) 0 [] := World.ownsRow_lit wq #[] 0 (Nat.le_refl _) (by decide) rfl
                  have hL0 : IsLits (wq.alloc (.cells #[] 58)) (.slice ab rl.length cb) rl := (h.keep (keeps_below (below_alloc' cq))).2
                  have swq : w.heap.size < wq.heap.size := by omega
                  have h1L := lits_oneCell hok
                  have sw := c6.size
                  have hmx1 : 0 + rl.length ≤ maxLen := by unfold maxLen; omega
                  have hmx2 : (0 + rl.length) * 112 ≤ 140737488355328 := by omega
                  have hmx3 : 0 + rl.length + 1 ≤ maxLen := by unfold maxLen; omega
                  have hmx4 : (0 + rl.length + 1) * 112 ≤ 140737488355328 := by omega
                  go_wp2_with (first
                    | (at_builtin; go_loud (
                       refine wpList_append_rows rfl encL _ _ 25 rfl wq.heap.size 58 i0 (.agg #[.int .i64 0, .string ⟨#[]⟩, .int .i64 0, .slice none 0 0, .string ⟨#[]⟩, .string ⟨#[]⟩, .int .i64 0, .int .i64 0, .int .i64 0]) 9 112 Try.underlying25 hi0 hz0 hz1 hz2 rfl (by decide) (.slice (some ⟨wq.heap.size, 0, none⟩) 0 0) 0 [] rfl hO0 (.slice ab rl.length cb) rl rfl hL0.1 (fun _ _ => rfl) h1L hmx1 hmx2 (by simp) ?_
                       intro v7 w7 hown7 hgrow7 hblk7
                       have hq7 : QBox w7 w6.heap.size (fun u => #[.string rn.1, .int .i64 rp, .slice aa rt.length ca, .int .i64 rk, .string ren.1, .string rev.1, .int .i64 rei, u, .int .i64 rat]) (.slice ab rl.length cb) := (hq0.kept (grown_none (below_new wq _) none) (by simp)).kept hgrow7 (fun e => by have : w6.heap.size = wq.heap.size := (by simpa [Value.ownBlock] using e); omega)
                       have b7 : Below w6.heap.size w6 w7 := (below_alloc' bq).grown hgrow7 (by simp; omega) (fun i hi => by have : wq.heap.size = i := (by simpa [Value.ownBlock] using hi); omega)
                       have hvo7 := own_from hown7
                       have hvl7 := fun k hk => (World.ownsRow.lt hown7 k hk).2
                       have ho8 := (hown7.alloc (.cells #[.string x.1, .int .i64 0, .int .i64 0, .string ⟨#[]⟩] 69)).alloc (.cells #[.int .i64 2, .string ⟨#[]⟩, .int .i64 0, .slice (some ⟨w7.heap.size, 0, none⟩) 1 1, .string ⟨#[]⟩, .string ⟨#[]⟩, .int .i64 0, .int .i64 0, .int .i64 0] 58)
                       have s7 := b7.size
                       have sg7 : wq.heap.size < w7.heap.size := (by have := hgrow7.size; simp at this; omega)))
                    | (at_builtin; go_loud (
                       refine wpList_append_lies _ rfl _ _ 25 rfl wq.heap.size 58 i0 (.agg #[.int .i64 0, .string ⟨#[]⟩, .int .i64 0, .slice none 0 0, .string ⟨#[]⟩, .string ⟨#[]⟩, .int .i64 0, .int .i64 0, .int .i64 0]) 9 112 Try.underlying25 hi0 hz0 hz1 hz2 rfl (by decide) v7 (0 + rl.length) ([] ++ rl.flatMap encL) rfl ho8 ⟨w7.heap.size + 1, 0, none⟩ 1 1 [.int .i64 2, .string ⟨#[]⟩, .int .i64 0, .slice (some ⟨w7.heap.size, 0, none⟩) 1 1, .string ⟨#[]⟩, .string ⟨#[]⟩, .int .i64 0, .int .i64 0, .int .i64 0] rfl rfl (World.news_of_block (B := w7.heap.size + 1) (cs := #[.int .i64 2, .string ⟨#[]⟩, .int .i64 0, .slice (some ⟨w7.heap.size, 0, none⟩) 1 1, .string ⟨#[]⟩, .string ⟨#[]⟩, .int .i64 0, .int .i64 0, .int .i64 0]) (t := 58) (fr := (0, 0)) (by simpa using heap_alloc_new (w7.alloc (.cells #[.string x.1, .int .i64 0, .int .i64 0, .string ⟨#[]⟩] 69)) (.cells #[.int .i64 2, .string ⟨#[]⟩, .int .i64 0, .slice (some ⟨w7.heap.size, 0, none⟩) 1 1, .string ⟨#[]⟩, .string ⟨#[]⟩, .int .i64 0, .int .i64 0, .int .i64 0] 58))) (by simp [Value.oneCell']) (by decide) hmx3 hmx4 (by simp; omega) _ rfl ?_
                       intro gg cap w8 hown8 hgrow8 hg1 hg2
                       have hq8 : QBox w8 w6.heap.size (fun u => #[.string rn.1, .int .i64 rp, .slice aa rt.length ca, .int .i64 rk, .string ren.1, .string rev.1, .int .i64 rei, u, .int .i64 rat]) (.slice ab rl.length cb) := (hq7.kept (grown_none (below_alloc' (below_new w7 _)) none) (by simp)).kept hgrow8 (fun e => by have := hvo7 _ e.symm; omega)
                       have x8 := hq8.cell 7
                       have f8 := hq8.frozen 7)))
                  have b8 : Below w6.heap.size w6 w8 := (below_alloc' (below_alloc' b7)).grown hgrow8 (by simp; omega) (fun i hi => by have := hvo7 i hi; omega)
                  obtain ⟨w9, hw9⟩ : ∃ y : World, y = w8.setCell ⟨w6.heap.size, 7, none⟩ (.slice (some ⟨gg, 0, none⟩) (rl.length + 1) cap) := ⟨_, rfl⟩
                  have hq9 : QBox w9 w6.heap.size (fun u => #[.string rn.1, .int .i64 rp, .slice aa rt.length ca, .int .i64 rk, .string ren.1, .string rev.1, .int .i64 rei, u, .int .i64 rat]) (.slice (some ⟨gg, 0, none⟩) (rl.length + 1) cap) := by subst hw9; exact hq8.set (u := (.slice (some ⟨gg, 0, none⟩) (rl.length + 1) cap)) rfl
                  have g9 : w8.grownBy w9 (some w6.heap.size) := by subst hw9; exact grown_setCell w8 ⟨w6.heap.size, 7, none⟩ (.slice (some ⟨gg, 0, none⟩) (rl.length + 1) cap)
                  rw [← hw9]
                  clear hw9 x8 f8
                  have b9 : Below w6.heap.size w6 w9 := b8.grown g9 b8.size (fun i hi => by have : w6.heap.size = i := (by simpa using hi); omega)
                  have d9 := below_trans d6 b9
                  have c9 := below_trans b0 d9
                  have hgl : gg ≠ w6.heap.size := by
                    rcases hg1 with hg1 | hg1
                    · have := hvo7 _ hg1; omega
                    · simp at hg1; omega
                  have hT1 : IsTerms ((w7.alloc (.cells #[.string x.1, .int .i64 0, .int .i64 0, .string ⟨#[]⟩] 69)).alloc (.cells #[.int .i64 2, .string ⟨#[]⟩, .int .i64 0, .slice (some ⟨w7.heap.size, 0, none⟩) 1 1, .string ⟨#[]⟩, .string ⟨#[]⟩, .int .i64 0, .int .i64 0, .int .i64 0] 58)) (.slice (some ⟨w7.heap.size, 0, none⟩) 1 1) [mkVar x] := (terms_new w7 [mkVar x] (by simp)).keep (keeps_below (below_new _ _))
                  have hT8 : IsTerms w8 (.slice (some ⟨w7.heap.size, 0, none⟩) 1 1) [mkVar x] := rows_far hT1 (hgrow8.block w7.heap.size (by simp; omega) (fun e => by have := hvl7 _ e.symm; omega))
                  have hT9 : IsTerms w9 (.slice (some ⟨w7.heap.size, 0, none⟩) 1 1) [mkVar x] := rows_far hT8 (g9.block w7.heap.size (by have := hgrow8.size; simp at this; omega) (fun e => by have : w7.heap.size = w6.heap.size := (by simpa using e); omega))
                  have hown9 := World.ownsRow.kept hown8 g9 (Or.inr (by simp [Value.ownBlock]; exact hgl))
                  have hlen9 : (rl ++ [(⟨2, noName, 0, .slice (some ⟨w7.heap.size, 0, none⟩) 1 1, [mkVar x], noName, noName, 0, 0, 0⟩ : Lt)]).length = rl.length + 1 := by simp
                  have hrows9 : IsRows 9 encL w9 (.slice (some ⟨gg, 0, none⟩) (rl.length + 1) cap) (rl ++ [(⟨2, noName, 0, .slice (some ⟨w7.heap.size, 0, none⟩) 1 1, [mkVar x], noName, noName, 0, 0, 0⟩ : Lt)]) := IsRows.of_owns (base := wq.heap.size) (e := 58) (by
                    rw [hlen9, List.flatMap_append]
                    have hh : w9.ownsRow wq.heap.size 58 9 (.slice (some ⟨gg, 0, none⟩) (rl.length + 1) cap) (rl.length + 1) (rl.flatMap encL ++ [.int .i64 2, .string ⟨#[]⟩, .int .i64 0, .slice (some ⟨w7.heap.size, 0, none⟩) 1 1, .string ⟨#[]⟩, .string ⟨#[]⟩, .int .i64 0, .int .i64 0, .int .i64 0]) := (by simpa using hown9)
                    exact hh) (fun _ _ => rfl) (by rw [hlen9]; omega)
                  have hRQ : RuleOk w9 ⟨rn, rp, .slice aa rt.length ca, rt, rk, ren, rev, rei, .slice (some ⟨gg, 0, none⟩) (rl.length + 1) cap, rl ++ [⟨2, noName, 0, .slice (some ⟨w7.heap.size, 0, none⟩) 1 1, [mkVar x], noName, noName, 0, 0, 0⟩], rat⟩ := ⟨(h.keep (keeps_below c9)).1, hrows9, fun y hy => by
                    rcases List.mem_append.1 hy with hy | hy
                    · exact (hok y hy).keep (keeps_below c9)
                    · obtain rfl := List.mem_singleton.1 hy
                      exact hT9⟩
                  have hfQ : Fits ⟨rn, rp, .slice aa rt.length ca, rt, rk, ren, rev, rei, .slice (some ⟨gg, 0, none⟩) (rl.length + 1) cap, rl ++ [⟨2, noName, 0, .slice (some ⟨w7.heap.size, 0, none⟩) 1 1, [mkVar x], noName, noName, 0, 0, 0⟩], rat⟩ := ⟨by show (rl ++ [(⟨2, noName, 0, .slice (some ⟨w7.heap.size, 0, none⟩) 1 1, [mkVar x], noName, noName, 0, 0, 0⟩ : Lt)]).length ≤ 20; rw [hlen9]; omega, fun y hy => by
                    have hy : y ∈ rl ++ [(⟨2, noName, 0, .slice (some ⟨w7.heap.size, 0, none⟩) 1 1, [mkVar x], noName, noName, 0, 0, 0⟩ : Lt)] := hy
                    rcases List.mem_append.1 hy with hy | hy
                    · exact hfit2 y hy
                    · obtain rfl := List.mem_singleton.1 hy
                      show 1 ≤ 6
                      omega⟩
                  have HEV := Lib.hid (show evaluable (ofList l) (rl ++ [(⟨2, noName, 0, .slice (some ⟨w7.heap.size, 0, none⟩) 1 1, [mkVar x], noName, noName, 0, 0, 0⟩ : Lt)]) (zs out ++ [(rl.length : Int)]) = (decide (x ∈ A) || decide (x ∈ l)) from by
                    rw [last_ready (q := ⟨2, noName, 0, .slice (some ⟨w7.heap.size, 0, none⟩) 1 1, [mkVar x], noName, noName, 0, 0, 0⟩) (x := x) HO.out rfl rfl rfl HX.out, HA.out]; rfl)
                  have b49 := below_trans hb (below_trans b5 (below_trans b6 b9))
                  have HVE : ∀ W, Below w9.heap.size w9 W → IsInts W ve (zs out) := fun W hW => hve.keep (keeps_below (below_trans (below_trans b6 b9) hW))
                  have HNV : ∀ W, Below w9.heap.size w9 W → IsNames W v l := fun W hW => hs.keep (keeps_below (below_trans c9 hW))
                  have HNA : ∀ W, Below w9.heap.size w9 W → IsNames W (.slice aA A.length cA) A := fun W hW => ⟨aA, cA, rfl, hrA.keep (keeps_below (below_trans b49 hW)), by omega⟩
                  have HRQ : ∀ W, Below w9.heap.size w9 W → RuleOk W ⟨rn, rp, .slice aa rt.length ca, rt, rk, ren, rev, rei, .slice (some ⟨gg, 0, none⟩) (rl.length + 1) cap, rl ++ [⟨2, noName, 0, .slice (some ⟨w7.heap.size, 0, none⟩) 1 1, [mkVar x], noName, noName, 0, 0, 0⟩], rat⟩ := fun W hW => hRQ.keep (keeps_below hW)
                  have HS : ∀ W, Below w9.heap.size w9 W → (fun w' => w'.cell? ⟨w6.heap.size, 0, none⟩ = some (.string rn.1) ∧ w'.cell? ⟨w6.heap.size, 1, none⟩ = some (.int .i64 rp) ∧ w'.cell? ⟨w6.heap.size, 2, none⟩ = some (.slice aa rt.length ca) ∧ w'.cell? ⟨w6.heap.size, 3, none⟩ = some (.int .i64 rk) ∧ w'.cell? ⟨w6.heap.size, 4, none⟩ = some (.string ren.1) ∧ w'.cell? ⟨w6.heap.size, 5, none⟩ = some (.string rev.1) ∧ w'.cell? ⟨w6.heap.size, 6, none⟩ = some (.int .i64 rei) ∧ w'.cell? ⟨w6.heap.size, 7, none⟩ = some (.slice (some ⟨gg, 0, none⟩) (rl.length + 1) cap) ∧ w'.cell? ⟨w6.heap.size, 8, none⟩ = some (.int .i64 rat) ∧ w'.cell? ⟨w.heap.size, 7, none⟩ = some (.slice ab rl.length cb)) W := fun W hW => by
                    obtain ⟨-, -, -, -, -, -, -, r7', -⟩ := hxR _ (below_trans d9 hW)
                    have hx := fun j u (e : (#[.string rn.1, .int .i64 rp, .slice aa rt.length ca, .int .i64 rk, .string ren.1, .string rev.1, .int .i64 rei, (.slice (some ⟨gg, 0, none⟩) (rl.length + 1) cap), .int .i64 rat] : Array Value)[j]? = some u) => cell_keep hW ((hq9.cell j).trans e)
                    exact ⟨hx 0 _ rfl, hx 1 _ rfl, hx 2 _ rfl, hx 3 _ rfl, hx 4 _ rfl, hx 5 _ rfl, hx 6 _ rfl, hx 7 _ rfl, hx 8 _ rfl, r7'⟩
                  dsimp only at HS
                  have hzl : (zs out).length ≤ 1000 := by rw [zs_length, ← HN.out.2.2]; omega
                  have hzl1 : (zs out).length + [(rl.length : Int)].length ≤ 1000 := by
                    have : (zs out).length ≤ 20 := by rw [zs_length, ← HN.out.2.2]; omega
                    simp only [List.length_singleton]; omega
                  have hzl2 : (zs out ++ [(rl.length : Int)]).length ≤ 9223372036854775807 := by rw [List.length_append]; omega
                  obtain ⟨ba, hba⟩ : ∃ b, decide (x ∈ A) = b := ⟨_, rfl⟩
                  obtain ⟨bl, hbl⟩ : ∃ b, decide (x ∈ l) = b := ⟨_, rfl⟩
                  rw [hba, hbl] at HEV
                  have HBA := Lib.hid hba
                  have HBL := Lib.hid hbl
                  clear hba hbl
                  rename_i a2 K2 Q1 K1 a1 K0 a0
                  clear a2 a1
                  rename_i a3 K4 z6 kk hkk woo hbb hltt Q2 K3
                  clear a3
                  clear HO HN HX HA FA1 FA2 FA3 FA4 FA5 FB1 FB2 FB3 FB4 FB5 hrows9 hown9 hq9 g9 hRQ hT9 hT8 hT1 hgl hlen9 b49 b9 d9 hxR
                  clear hq8 hown8 hgrow8 hg1 hg2 b8 hq7 hown7 hgrow7 hvo7 hvl7 ho8 b7 hblk7 s7 sg7
                  cases ba
                  case true =>
                    refine wp_region_held_drew (S := (fun w' => w'.cell? ⟨w6.heap.size, 0, none⟩ = some (.string rn.1) ∧ w'.cell? ⟨w6.heap.size, 1, none⟩ = some (.int .i64 rp) ∧ w'.cell? ⟨w6.heap.size, 2, none⟩ = some (.slice aa rt.length ca) ∧ w'.cell? ⟨w6.heap.size, 3, none⟩ = some (.int .i64 rk) ∧ w'.cell? ⟨w6.heap.size, 4, none⟩ = some (.string ren.1) ∧ w'.cell? ⟨w6.heap.size, 5, none⟩ = some (.string rev.1) ∧ w'.cell? ⟨w6.heap.size, 6, none⟩ = some (.int .i64 rei) ∧ w'.cell? ⟨w6.heap.size, 7, none⟩ = some (.slice (some ⟨gg, 0, none⟩) (rl.length + 1) cap) ∧ w'.cell? ⟨w6.heap.size, 8, none⟩ = some (.int .i64 rat) ∧ w'.cell? ⟨w.heap.size, 7, none⟩ = some (.slice ab rl.length cb))) (by kernel_rfl) (HS _ (by with_reducible (repeat (first | assumption | exact Below.refl _ _ | refine below_alloc' ?_ | refine below_drew' ?_ | refine below_step (by assumption) ?_)))) (fun hHeld => ?_)
                    refine wpAnyH_take (i := 0) (oi := ({ dst := some 189, op := Op.move (Operand.tmp 7), type := 4, pos := "law.go:307", after := #[], guard := none } : Oper)) (v := .bool true) rfl (by kernel_rfl) (by kernel_rfl) (by kernel_rfl) (fun _ _ _ h => h) (Or.inl ⟨by rfl, ?_⟩) (by assumption) ?_; (focus (intro w hSw; (try dsimp only at hSw); go_simp; done)); (simp only [Act.put, List.setIfInBounds_toArray, List.set_cons_zero, List.set_cons_succ])
                    refine wpAnyH_take (i := 1) (oi := ({ dst := some 190, op := Op.move (Operand.tmp 189), type := 4, pos := "law.go:307", after := #[{ on := 0, ground := Ground.data }], guard := none } : Oper)) (v := .bool true) rfl (by kernel_rfl) (by kernel_rfl) (by kernel_rfl) (fun _ _ _ h => h) (Or.inl ⟨by rfl, ?_⟩) (by assumption) ?_; (focus (intro w hSw; (try dsimp only at hSw); go_simp; done)); (simp only [Act.put, List.setIfInBounds_toArray, List.set_cons_zero, List.set_cons_succ])
                    refine wpAnyH_take (i := 2) (oi := ({ dst := some 191, op := Op.load 27 (Operand.tmp 17), type := 27, pos := "law.go:307", after := #[{ on := 1, ground := Ground.guard }], guard := some (1, true) } : Oper)) (v := .agg #[.string rn.1, .int .i64 rp, .slice aa rt.length ca, .int .i64 rk, .string ren.1, .string rev.1, .int .i64 rei, (.slice (some ⟨gg, 0, none⟩) (rl.length + 1) cap), .int .i64 rat]) rfl (by kernel_rfl) (by kernel_rfl) (by kernel_rfl) (fun _ _ _ h => h) (Or.inl ⟨by rfl, ?_⟩) (by assumption) ?_; (focus (intro w hSw; (try dsimp only at hSw); go_simp; done)); (simp only [Act.put, List.setIfInBounds_toArray, List.set_cons_zero, List.set_cons_succ])
                    refine wpAnyH_take (i := 3) (oi := ({ dst := some 192, op := Op.move (Operand.tmp 1), type := 28, pos := "law.go:307", after := #[{ on := 1, ground := Ground.guard }], guard := some (1, true) } : Oper)) (v := v) rfl (by kernel_rfl) (by kernel_rfl) (by kernel_rfl) (fun _ _ _ h => h) (Or.inl ⟨by rfl, ?_⟩) (by assumption) ?_; (focus (intro w hSw; (try dsimp only at hSw); go_simp; done)); (simp only [Act.put, List.setIfInBounds_toArray, List.set_cons_zero, List.set_cons_succ])
                    refine wpAnyH_take (i := 5) (oi := ({ dst := some 194, op := Op.move (Operand.tmp 15), type := 29, pos := "law.go:307", after := #[{ on := 1, ground := Ground.guard }], guard := some (1, true) } : Oper)) (v := ve) rfl (by kernel_rfl) (by kernel_rfl) (by kernel_rfl) (fun _ _ _ h => h) (Or.inl ⟨by rfl, ?_⟩) (by assumption) ?_; (focus (intro w hSw; (try dsimp only at hSw); go_simp; done)); (simp only [Act.put, List.setIfInBounds_toArray, List.set_cons_zero, List.set_cons_succ])
                    refine wpAnyH_take (i := 7) (oi := ({ dst := some 196, op := Op.fieldAddr 27 (Operand.tmp 3) 4, type := 0, pos := "law.go:307", after := #[{ on := 1, ground := Ground.guard }], guard := some (1, true) } : Oper)) (v := .pointer (some ⟨w.heap.size, 7, none⟩)) rfl (by kernel_rfl) (by kernel_rfl) (by kernel_rfl) (fun _ _ _ h => h) (Or.inl ⟨by rfl, ?_⟩) (by assumption) ?_; (focus (intro w hSw; (try dsimp only at hSw); go_simp; done)); (simp only [Act.put, List.setIfInBounds_toArray, List.set_cons_zero, List.set_cons_succ])
                    refine wpAnyH_take (i := 8) (oi := ({ dst := some 197, op := Op.load 25 (Operand.tmp 196), type := 25, pos := "law.go:307", after := #[{ on := 7, ground := Ground.data }, { on := 1, ground := Ground.guard }], guard := some (1, true) } : Oper)) (v := .slice ab rl.length cb) rfl (by kernel_rfl) (by kernel_rfl) (by kernel_rfl) (fun _ _ _ h => h) (Or.inl ⟨by rfl, ?_⟩) (by assumption) ?_; (focus (intro w hSw; (try dsimp only at hSw); go_simp; done)); (simp only [Act.put, List.setIfInBounds_toArray, List.set_cons_zero, List.set_cons_succ])
                    refine wpAnyH_take (i := 9) (oi := ({ dst := some 198, op := Op.call { callee := Callee.builtin Builtin.len, args := #[Operand.tmp 197], argTypes := #[25] }, type := 3, pos := "law.go:307", after := #[{ on := 8, ground := Ground.data }, { on := 1, ground := Ground.guard }], guard := some (1, true) } : Oper)) (v := .int .i64 rl.length) rfl (by kernel_rfl) (by kernel_rfl) (by kernel_rfl) (fun _ _ _ h => h) (Or.inl ⟨by rfl, ?_⟩) (by assumption) ?_; (focus (intro w hSw; (try dsimp only at hSw); go_simp; done)); (simp only [Act.put, List.setIfInBounds_toArray, List.set_cons_zero, List.set_cons_succ])
                    refine wpAnyH_take (i := 13) (oi := ({ dst := some 202, op := Op.move (Operand.tmp 8), type := 28, pos := "law.go:307", after := #[{ on := 1, ground := Ground.guard }], guard := some (1, true) } : Oper)) (v := .slice aA A.length cA) rfl (by kernel_rfl) (by kernel_rfl) (by kernel_rfl) (fun _ _ _ h => h) (Or.inl ⟨by rfl, ?_⟩) (by assumption) ?_; (focus (intro w hSw; (try dsimp only at hSw); go_simp; done)); (simp only [Act.put, List.setIfInBounds_toArray, List.set_cons_zero, List.set_cons_succ])
                    refine wpAnyH_take (i := 14) (oi := ({ dst := some 203, op := Op.move (Operand.tmp 2), type := 9, pos := "law.go:307", after := #[{ on := 1, ground := Ground.guard }], guard := some (1, true) } : Oper)) (v := .string x.1) rfl (by kernel_rfl) (by kernel_rfl) (by kernel_rfl) (fun _ _ _ h => h) (Or.inl ⟨by rfl, ?_⟩) (by assumption) ?_; (focus (intro w hSw; (try dsimp only at hSw); go_simp; done)); (simp only [Act.put, List.setIfInBounds_toArray, List.set_cons_zero, List.set_cons_succ])
                    repeat' (first
                      | (refine wpAnyH_take (i := 16) (oi := ({ dst := some 205, op := Op.move (Operand.tmp 204), type := 4, pos := "law.go:307", after := #[{ on := 15, ground := Ground.data }, { on := 15, ground := Ground.chain }, { on := 1, ground := Ground.guard }], guard := some (1, true) } : Oper)) (v := .bool true) rfl (by decide +kernel) (by decide +kernel) (by decide +kernel) (fun _ _ _ h => h) (Or.inl ⟨by rfl, ?_⟩) (by assumption) ?_; (focus (intro w hSw; (try dsimp only at hSw); go_simp; done)); (simp only [Act.put, List.setIfInBounds_toArray, List.set_cons_zero, List.set_cons_succ]))
                      | (refine wpAnyH_take (i := 17) (oi := ({ dst := some 206, op := Op.move (Operand.tmp 1), type := 28, pos := "law.go:307", after := #[{ on := 16, ground := Ground.guard }], guard := some (16, false) } : Oper)) rfl (by decide +kernel) (by decide +kernel) (by decide +kernel) (fun _ _ _ h => h) (Or.inr ⟨by rfl, rfl⟩) (by assumption) ?_; (try simp only [Act.put, List.setIfInBounds_toArray, List.set_cons_zero, List.set_cons_succ]))
                      | (refine wpAnyH_take (i := 18) (oi := ({ dst := some 207, op := Op.move (Operand.tmp 2), type := 9, pos := "law.go:307", after := #[{ on := 16, ground := Ground.guard }], guard := some (16, false) } : Oper)) rfl (by decide +kernel) (by decide +kernel) (by decide +kernel) (fun _ _ _ h => h) (Or.inr ⟨by rfl, rfl⟩) (by assumption) ?_; (try simp only [Act.put, List.setIfInBounds_toArray, List.set_cons_zero, List.set_cons_succ]))
                      | (refine wpAnyH_take (i := 19) (oi := ({ dst := some 208, op := Op.call { callee := Callee.value (Operand.func 29), args := #[Operand.tmp 206, Operand.tmp 207], argTypes := #[28, 9] }, type := 4, pos := "law.go:307", after := #[{ on := 17, ground := Ground.data }, { on := 18, ground := Ground.data }, { on := 16, ground := Ground.chain }, { on := 16, ground := Ground.guard }], guard := some (16, false) } : Oper)) rfl (by decide +kernel) (by decide +kernel) (by decide +kernel) (fun _ _ _ h => h) (Or.inr ⟨by rfl, rfl⟩) (by assumption) ?_; (try simp only [Act.put, List.setIfInBounds_toArray, List.set_cons_zero, List.set_cons_succ]))
                      | (refine wpAnyH_take (i := 20) (oi := ({ dst := some 209, op := Op.pick (Operand.tmp 205) (Operand.const (Value.bool true)) (Operand.tmp 208), type := 4, pos := "law.go:307", after := #[{ on := 16, ground := Ground.data }, { on := 19, ground := Ground.data }, { on := 1, ground := Ground.guard }], guard := some (1, true) } : Oper)) (v := .bool true) rfl (by decide +kernel) (by decide +kernel) (by decide +kernel) (fun _ _ _ h => h) (Or.inl ⟨by rfl, ?_⟩) (by assumption) ?_; (focus (intro w hSw; (try dsimp only at hSw); go_simp; done)); (simp only [Act.put, List.setIfInBounds_toArray, List.set_cons_zero, List.set_cons_succ]))
                      | (refine wpAnyH_take (i := 21) (oi := ({ dst := some 210, op := Op.binOp BinOp.eql 4 (Operand.tmp 201) (Operand.tmp 209) 4, type := 4, pos := "law.go:307", after := #[{ on := 12, ground := Ground.data }, { on := 20, ground := Ground.data }, { on := 1, ground := Ground.guard }], guard := some (1, true) } : Oper)) (v := .bool true) rfl (by decide +kernel) (by decide +kernel) (by decide +kernel) (fun _ _ _ h => h) (Or.inl ⟨by rfl, ?_⟩) (by assumption) ?_; (focus (intro w hSw; (try dsimp only at hSw); go_simp; done)); (simp only [Act.put, List.setIfInBounds_toArray, List.set_cons_zero, List.set_cons_succ]))
                      | (refine wpAnyH_take (i := 22) (oi := ({ dst := some 211, op := Op.pick (Operand.tmp 190) (Operand.tmp 210) (Operand.const (Value.bool false)), type := 4, pos := "law.go:307", after := #[{ on := 1, ground := Ground.data }, { on := 21, ground := Ground.data }], guard := none } : Oper)) (v := .bool true) rfl (by decide +kernel) (by decide +kernel) (by decide +kernel) (fun _ _ _ h => h) (Or.inl ⟨by rfl, ?_⟩) (by assumption) ?_; (focus (intro w hSw; (try dsimp only at hSw); go_simp; done)); (simp only [Act.put, List.setIfInBounds_toArray, List.set_cons_zero, List.set_cons_succ]))
                      | (refine wpAnyH_take (i := 23) (oi := ({ dst := some 6, op := Op.assign (Operand.tmp 211), type := 4, pos := "law.go:307", after := #[{ on := 22, ground := Ground.data }, { on := 19, ground := Ground.chain }, { on := 0, ground := Ground.phase }, { on := 1, ground := Ground.phase }, { on := 2, ground := Ground.phase }, { on := 3, ground := Ground.phase }, { on := 4, ground := Ground.phase }, { on := 5, ground := Ground.phase }, { on := 6, ground := Ground.phase }, { on := 7, ground := Ground.phase }, { on := 8, ground := Ground.phase }, { on := 9, ground := Ground.phase }, { on := 10, ground := Ground.phase }, { on := 11, ground := Ground.phase }, { on := 12, ground := Ground.phase }, { on := 13, ground := Ground.phase }, { on := 14, ground := Ground.phase }, { on := 15, ground := Ground.phase }, { on := 16, ground := Ground.phase }, { on := 17, ground := Ground.phase }, { on := 18, ground := Ground.phase }, { on := 19, ground := Ground.phase }, { on := 20, ground := Ground.phase }, { on := 21, ground := Ground.phase }, { on := 22, ground := Ground.phase }], guard := none } : Oper)) (v := .bool true) rfl (by decide +kernel) (by decide +kernel) (by decide +kernel) (fun _ _ _ h => h) (Or.inl ⟨by rfl, ?_⟩) (by assumption) ?_; (focus (intro w hSw; (try dsimp only at hSw); go_simp; done)); (simp only [Act.put, List.setIfInBounds_toArray, List.set_cons_zero, List.set_cons_succ]))
                      | (refine wpAnyH_done (by decide +kernel) ?_ _)
                      | refine wpAnyH_ready (rs := [4, 10, 15]) (by decide +kernel) (by simp) ?_
                      | refine wpAnyH_ready (rs := [6, 10, 15]) (by decide +kernel) (by simp) ?_
                      | refine wpAnyH_ready (rs := [10, 15]) (by decide +kernel) (by simp) ?_
                      | refine wpAnyH_ready (rs := [4, 15]) (by decide +kernel) (by simp) ?_
                      | refine wpAnyH_ready (rs := [6, 15]) (by decide +kernel) (by simp) ?_
                      | refine wpAnyH_ready (rs := [11, 15]) (by decide +kernel) (by simp) ?_
                      | refine wpAnyH_ready (rs := [12, 15]) (by decide +kernel) (by simp) ?_
                      | refine wpAnyH_ready (rs := [15]) (by decide +kernel) (by simp) ?_
                      | refine wpAnyH_ready (rs := [4, 10]) (by decide +kernel) (by simp) ?_
                      | refine wpAnyH_ready (rs := [6, 10]) (by decide +kernel) (by simp) ?_
                      | refine wpAnyH_ready (rs := [10]) (by decide +kernel) (by simp) ?_
                      | refine wpAnyH_ready (rs := [4]) (by decide +kernel) (by simp) ?_
                      | refine wpAnyH_ready (rs := [6]) (by decide +kernel) (by simp) ?_
                      | refine wpAnyH_ready (rs := [11]) (by decide +kernel) (by simp) ?_
                      | refine wpAnyH_ready (rs := [12]) (by decide +kernel) (by simp) ?_
                      | exact AllReadyH.nil
                      | refine AllReadyH.cons (i := 4) (o := ({ dst := some 193, op := Op.buildSlice 29 0 #[], type := 29, pos := "law.go:307", after := #[{ on := 1, ground := Ground.guard }], guard := some (1, true) } : Oper)) rfl (fun K hK => ?_) ?_
                      | refine AllReadyH.cons (i := 6) (o := ({ dst := some 195, op := Op.call { callee := Callee.builtin Builtin.append, args := #[Operand.tmp 193, Operand.tmp 194], argTypes := #[29, 29] }, type := 29, pos := "law.go:307", after := #[{ on := 4, ground := Ground.data }, { on := 5, ground := Ground.data }, { on := 1, ground := Ground.chain }, { on := 1, ground := Ground.guard }], guard := some (1, true) } : Oper)) rfl (fun K hK => ?_) ?_
                      | refine AllReadyH.cons (i := 10) (o := ({ dst := some 199, op := Op.buildSlice 29 1 #[(0, Operand.tmp 198)], type := 29, pos := "law.go:307", after := #[{ on := 9, ground := Ground.data }, { on := 1, ground := Ground.guard }], guard := some (1, true) } : Oper)) rfl (fun K hK => ?_) ?_
                      | refine AllReadyH.cons (i := 11) (o := ({ dst := some 200, op := Op.call { callee := Callee.builtin Builtin.append, args := #[Operand.tmp 195, Operand.tmp 199], argTypes := #[29, 29] }, type := 29, pos := "law.go:307", after := #[{ on := 6, ground := Ground.data }, { on := 10, ground := Ground.data }, { on := 6, ground := Ground.chain }, { on := 1, ground := Ground.guard }], guard := some (1, true) } : Oper)) rfl (fun K hK => ?_) ?_
                      | refine AllReadyH.cons (i := 12) (o := ({ dst := some 201, op := Op.call { callee := Callee.value (Operand.func 19), args := #[Operand.tmp 191, Operand.tmp 192, Operand.tmp 200], argTypes := #[27, 28, 29] }, type := 4, pos := "law.go:307", after := #[{ on := 2, ground := Ground.data }, { on := 3, ground := Ground.data }, { on := 11, ground := Ground.data }, { on := 11, ground := Ground.chain }, { on := 1, ground := Ground.guard }], guard := some (1, true) } : Oper)) rfl (fun K hK => ?_) ?_
                      | refine AllReadyH.cons (i := 15) (o := ({ dst := some 204, op := Op.call { callee := Callee.value (Operand.func 29), args := #[Operand.tmp 202, Operand.tmp 203], argTypes := #[28, 9] }, type := 4, pos := "law.go:307", after := #[{ on := 13, ground := Ground.data }, { on := 14, ground := Ground.data }, { on := 12, ground := Ground.chain }, { on := 1, ground := Ground.guard }], guard := some (1, true) } : Oper)) rfl (fun K hK => ?_) ?_
                      | (refine app0_ts (w0 := w9) rfl (.tmp 193) (.tmp 194) rfl (by with_reducible (repeat (first | assumption | exact Below.refl _ _ | refine below_alloc' ?_ | refine below_drew' ?_ | refine below_step (by assumption) ?_))) rfl (by with_reducible (repeat (first | exact blk0_new (by with_reducible (repeat (first | assumption | exact Below.refl _ _ | refine below_alloc' ?_ | refine below_drew' ?_ | refine below_step (by assumption) ?_))) (by simp <;> contradiction) | apply blk_alloc | apply blk_drew | (apply blk_step; assumption)))) rfl (HVE _ (by with_reducible (repeat (first | assumption | exact Below.refl _ _ | refine below_alloc' ?_ | refine below_drew' ?_ | refine below_step (by assumption) ?_)))) hzl ?_; intro vX wX bX hoX hfX; (refine hK.out _ _ (HS _ (by with_reducible (repeat (first | assumption | exact Below.refl _ _ | refine below_alloc' ?_ | refine below_drew' ?_ | refine below_step (by assumption) ?_)))) (fun hHeld => ?_)); clear hK K; (try simp only [Act.put, List.setIfInBounds_toArray, List.set_cons_zero, List.set_cons_succ]))
                      | (refine app1_ts (w0 := w9) (v := vX) (l := zs out) (m := [(rl.length : Int)]) rfl (.tmp 195) (.tmp 199) rfl (by with_reducible (repeat (first | assumption | exact Below.refl _ _ | refine below_alloc' ?_ | refine below_drew' ?_ | refine below_step (by assumption) ?_))) rfl (by with_reducible (repeat (first | exact hoX | apply own_alloc | apply own_drew | (apply own_step; assumption)))) rfl (by with_reducible (repeat (first | exact blk1_new (by with_reducible (repeat (first | assumption | exact Below.refl _ _ | refine below_alloc' ?_ | refine below_drew' ?_ | refine below_step (by assumption) ?_))) (by simp <;> contradiction) | (refine hfX _ _ (by simp) ?_) | apply blk_alloc | apply blk_drew | (apply blk_step; assumption)))) rfl hzl1 ?_; intro vY wY bY hoY; (refine hK.out _ _ (HS _ (by with_reducible (repeat (first | assumption | exact Below.refl _ _ | refine below_alloc' ?_ | refine below_drew' ?_ | refine below_step (by assumption) ?_)))) (fun hHeld => ?_)); clear hK K; (try simp only [Act.put, List.setIfInBounds_toArray, List.set_cons_zero, List.set_cons_succ]))
                      | (go_simp; (first | (go_at_call 19; refine ev_ts (r := ⟨rn, rp, .slice aa rt.length ca, rt, rk, ren, rev, rei, .slice (some ⟨gg, 0, none⟩) (rl.length + 1) cap, rl ++ [⟨2, noName, 0, .slice (some ⟨w7.heap.size, 0, none⟩) 1 1, [mkVar x], noName, noName, 0, 0, 0⟩], rat⟩) (HRQ _ (by with_reducible (repeat (first | assumption | exact Below.refl _ _ | refine below_alloc' ?_ | refine below_drew' ?_ | refine below_step (by assumption) ?_)))) (HNV _ (by with_reducible (repeat (first | assumption | exact Below.refl _ _ | refine below_alloc' ?_ | refine below_drew' ?_ | refine below_step (by assumption) ?_)))) (OwnInts.is (by with_reducible (repeat (first | exact hoY | apply own_alloc | apply own_drew | (apply own_step; assumption)))) hzl2) hfQ hl1 HEV.out ?_; intro wE bE; (refine hK.out _ _ (HS _ (by with_reducible (repeat (first | assumption | exact Below.refl _ _ | refine below_alloc' ?_ | refine below_drew' ?_ | refine below_step (by assumption) ?_)))) (fun hHeld => ?_)); clear hK K; (try simp only [Act.put, List.setIfInBounds_toArray, List.set_cons_zero, List.set_cons_succ])) | (go_at_call 29; refine in_ts (HNA _ (by with_reducible (repeat (first | assumption | exact Below.refl _ _ | refine below_alloc' ?_ | refine below_drew' ?_ | refine below_step (by assumption) ?_)))) HBA.out ?_; intro wG bG; (refine hK.out _ _ (HS _ (by with_reducible (repeat (first | assumption | exact Below.refl _ _ | refine below_alloc' ?_ | refine below_drew' ?_ | refine below_step (by assumption) ?_)))) (fun hHeld => ?_)); clear hK K; (try simp only [Act.put, List.setIfInBounds_toArray, List.set_cons_zero, List.set_cons_succ])) | ((refine hK.out _ _ (HS _ (by with_reducible (repeat (first | assumption | exact Below.refl _ _ | refine below_alloc' ?_ | refine below_drew' ?_ | refine below_step (by assumption) ?_)))) (fun hHeld => ?_)); clear hK K; (try simp only [Act.put, List.setIfInBounds_toArray, List.set_cons_zero, List.set_cons_succ])))))
                    all_goals
                      go_wp2
                      go_ret
                      exact ⟨rfl, below_trans c9 (by with_reducible (repeat (first | assumption | exact Below.refl _ _ | refine below_alloc' ?_ | refine below_drew' ?_ | refine below_step (by assumption) ?_)))⟩
                  case false =>
                    cases bl
                    all_goals
                      go_region_held3 (fun w' => w'.cell? ⟨w6.heap.size, 0, none⟩ = some (.string rn.1) ∧ w'.cell? ⟨w6.heap.size, 1, none⟩ = some (.int .i64 rp) ∧ w'.cell? ⟨w6.heap.size, 2, none⟩ = some (.slice aa rt.length ca) ∧ w'.cell? ⟨w6.heap.size, 3, none⟩ = some (.int .i64 rk) ∧ w'.cell? ⟨w6.heap.size, 4, none⟩ = some (.string ren.1) ∧ w'.cell? ⟨w6.heap.size, 5, none⟩ = some (.string rev.1) ∧ w'.cell? ⟨w6.heap.size, 6, none⟩ = some (.int .i64 rei) ∧ w'.cell? ⟨w6.heap.size, 7, none⟩ = some (.slice (some ⟨gg, 0, none⟩) (rl.length + 1) cap) ∧ w'.cell? ⟨w6.heap.size, 8, none⟩ = some (.int .i64 rat) ∧ w'.cell? ⟨w.heap.size, 7, none⟩ = some (.slice ab rl.length cb))
                        (first | exact HS _ (by with_reducible (repeat (first | assumption | exact Below.refl _ _ | refine below_alloc' ?_ | refine below_drew' ?_ | refine below_step (by assumption) ?_))))
                        (first
                          | (go_at_call 19; refine ev_ts (r := ⟨rn, rp, .slice aa rt.length ca, rt, rk, ren, rev, rei, .slice (some ⟨gg, 0, none⟩) (rl.length + 1) cap, rl ++ [⟨2, noName, 0, .slice (some ⟨w7.heap.size, 0, none⟩) 1 1, [mkVar x], noName, noName, 0, 0, 0⟩], rat⟩) (HRQ _ (by with_reducible (repeat (first | assumption | exact Below.refl _ _ | refine below_alloc' ?_ | refine below_drew' ?_ | refine below_step (by assumption) ?_)))) (HNV _ (by with_reducible (repeat (first | assumption | exact Below.refl _ _ | refine below_alloc' ?_ | refine below_drew' ?_ | refine below_step (by assumption) ?_)))) (OwnInts.is (by with_reducible (repeat (first | exact hoY | apply own_alloc | apply own_drew | (apply own_step; assumption)))) hzl2) hfQ hl1 HEV.out ?_; intro wE bE)
                          | (go_at_call 29; refine in_ts (HNA _ (by with_reducible (repeat (first | assumption | exact Below.refl _ _ | refine below_alloc' ?_ | refine below_drew' ?_ | refine below_step (by assumption) ?_)))) HBA.out ?_; intro wG bG)
                          | (go_at_call 29; refine in_ts (HNV _ (by with_reducible (repeat (first | assumption | exact Below.refl _ _ | refine below_alloc' ?_ | refine below_drew' ?_ | refine below_step (by assumption) ?_)))) HBL.out ?_; intro wH bH)
                          | (refine app0_ts (w0 := w9) rfl (.tmp 193) (.tmp 194) rfl (by with_reducible (repeat (first | assumption | exact Below.refl _ _ | refine below_alloc' ?_ | refine below_drew' ?_ | refine below_step (by assumption) ?_))) rfl (by with_reducible (repeat (first | exact blk0_new (by with_reducible (repeat (first | assumption | exact Below.refl _ _ | refine below_alloc' ?_ | refine below_drew' ?_ | refine below_step (by assumption) ?_))) (by simp <;> contradiction) | apply blk_alloc | apply blk_drew | (apply blk_step; assumption)))) rfl (HVE _ (by with_reducible (repeat (first | assumption | exact Below.refl _ _ | refine below_alloc' ?_ | refine below_drew' ?_ | refine below_step (by assumption) ?_)))) hzl ?_; intro vX wX bX hoX hfX)
                          | (refine app1_ts (w0 := w9) (v := vX) (l := zs out) (m := [(rl.length : Int)]) rfl (.tmp 195) (.tmp 199) rfl (by with_reducible (repeat (first | assumption | exact Below.refl _ _ | refine below_alloc' ?_ | refine below_drew' ?_ | refine below_step (by assumption) ?_))) rfl (by with_reducible (repeat (first | exact hoX | apply own_alloc | apply own_drew | (apply own_step; assumption)))) rfl (by with_reducible (repeat (first | exact blk1_new (by with_reducible (repeat (first | assumption | exact Below.refl _ _ | refine below_alloc' ?_ | refine below_drew' ?_ | refine below_step (by assumption) ?_))) (by simp <;> contradiction) | (refine hfX _ _ (by simp) ?_) | apply blk_alloc | apply blk_drew | (apply blk_step; assumption)))) rfl hzl1 ?_; intro vY wY bY hoY))
                      all_goals
                        go_wp2
                        go_ret
                        exact ⟨rfl, below_trans c9 (by with_reducible (repeat (first | assumption | exact Below.refl _ _ | refine below_alloc' ?_ | refine below_drew' ?_ | refine below_step (by assumption) ?_)))⟩
end Go.Proofs.Ytnibgmmoebmnlaa
