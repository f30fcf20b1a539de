/- The walk of the law SafetyGreedy. -/
import Derived.Test.YtnibgmmoebmnlaaLaw4
import Derived.Test.YtnibgmmoebmnlaaWt
import Derived.WalkMore
import Derived.Deep.LoopGhost
namespace Go.Proofs.Ytnibgmmoebmnlaa
open Go.RowKit
theorem ints_alike {va vb : Value} {a : List Int} {w : World} (ha : IsInts w va a) (hb : IsInts w vb a) : Calls Try.prog 17 #[va, vb] w fun e w' => e = .returned (.bool true) ∧ Below w.heap.size w w' := by
  have := Ints_any va vb a a w ha hb
  rwa [decide_eq_true rfl] at this
set_option maxHeartbeats 4000000 in
set_option maxRecDepth 100000 in
theorem law5_any (r : Rl) (v : Value) (l : List Nm) (w : World) (h : RuleOk w r) (hs : IsNames w v l) :
    Calls Try.prog 5 #[ruleV r, v] w fun e w' => e = .returned (.bool true) ∧ Below w.heap.size w w' := by
  obtain ⟨ab, cb, hbody, -, -⟩ := id h.2.1
  obtain ⟨rn, rp, ra, rt, rk, ren, rev, rei, rb, rl, rat⟩ := r
  dsimp only at hbody
  subst hbody
  unfold ruleV
  obtain ⟨wb, hwb⟩ : ∃ x : World, x = w.alloc (.cells (ruleCells ⟨rn, rp, ra, rt, rk, ren, rev, rei, .slice ab rl.length cb, rl, rat⟩) 27) := ⟨_, rfl⟩
  have b0 : Below w.heap.size w wb := by subst hwb; exact below_new _ _
  have hxR := fun w' (hb : Below wb.heap.size wb w') => ruleBox_at (w := w) (r := ⟨rn, rp, ra, rt, rk, ren, rev, rei, .slice ab rl.length cb, rl, rat⟩) (w' := w') (by subst hwb; exact hb)
  unfold ruleCells at hwb
  dsimp only at hwb hxR
  go_enter Try.func5, Try.ntmps5
  go_wp2_with fail
  rw [← hwb]
  clear hwb
  refine (head_any _).mono ?_
  rintro e w1 ⟨rfl, b1⟩
  obtain ⟨r0, r1, r2, r3, r4, r5, r6, r7, r8⟩ := hxR _ b1
  have c1 := below_trans b0 b1
  go_wp2_with fail
  refine (Small_any ⟨rn, rp, ra, rt, rk, ren, rev, rei, .slice ab rl.length cb, rl, rat⟩ _ (h.keep (keeps_below c1))).mono ?_
  rintro e w2 ⟨rfl, b2⟩
  have d2 := below_trans b1 b2
  have c2 := below_trans b0 d2
  cases hsm : small ⟨rn, rp, ra, rt, rk, ren, rev, rei, .slice ab rl.length cb, rl, rat⟩
  · go_wp2
    go_ret
    exact ⟨rfl, c2⟩
  have hfit := small_fits hsm
  have hfit1 : rl.length ≤ 20 := hfit.1
  clear r0 r1 r2 r3 r4 r5 r6 r7 r8
  go_wp2_with fail
  refine (few_any v l _ (hs.keep (keeps_below c2))).mono ?_
  rintro e w3 ⟨rfl, b3⟩
  have d3 := below_trans d2 b3
  have c3 := below_trans b0 d3
  by_cases hfew : l.length ≤ 20
  case neg =>
    have hd : decide (l.length ≤ 20) = false := decide_eq_false hfew
    go_wp2
    go_ret
    exact ⟨rfl, c3⟩
  have hd : decide (l.length ≤ 20) = true := decide_eq_true hfew
  have hl1 : l.length ≤ 1000 := by omega
  have hb12 : rl.length ≤ 1000 := by omega
  obtain ⟨r0, r1, r2, r3, r4, r5, r6, r7, r8⟩ := hxR _ d3
  go_wp2_with fail
  refine (Order_any ⟨rn, rp, ra, rt, rk, ren, rev, rei, .slice ab rl.length cb, rl, rat⟩ v l _ (h.keep (keeps_below c3)) (hs.keep (keeps_below c3)) hfit hl1).mono ?_
  clear hd
  obtain ⟨R, hR⟩ : ∃ R, orderR ⟨rn, rp, ra, rt, rk, ren, rev, rei, .slice ab rl.length cb, rl, rat⟩ l = R := ⟨_, rfl⟩
  have HR := Lib.hid (show R = match order (ofList l) rl with | some out => (zs out, 0) | none => ([], 80) from by rw [← hR]; rfl)
  rw [hR]
  clear hR
  obtain ⟨Ro, Rc⟩ := R
  dsimp only
  rintro e w4 ⟨⟨ve, rfl, hve⟩, b4⟩
  have d4 := below_trans d3 b4
  have c4 := below_trans b0 d4
  clear r0 r1 r2 r3 r4 r5 r6 r7 r8
  obtain ⟨r0, r1, r2, r3, r4, r5, r6, r7, r8⟩ := hxR _ d4
  have s4 := d4.size
  obtain ⟨i0, hi, hz0, hz1, hz2⟩ := info_parts info4'
  obtain ⟨i1, hi', hz0', hz1', hz2'⟩ := info_parts info3'
  have hlits : RowsAt 9 encL w ab rl := by
    obtain ⟨a, c, e, hh, _⟩ := h.2.1
    simp only [Value.slice.injEq] at e
    obtain ⟨rfl, -, rfl⟩ := e
    exact hh
  have hok := h.2.2
  have hfit2 : ∀ q ∈ rl, q.targs.length ≤ 6 := hfit.2
  go_wp2_with (at_make; refine wpList_make_full _ rfl _ _ 54 rfl w4.heap.size 4 i0 (.bool false) 1 Try.underlying54 hi hz0 hz1 .i64 .i64 (rl.length : Int) (rl.length : Int) rl.length rfl rfl rfl rfl (by rw [hz2]; omega) (by unfold maxLen; omega) (Nat.le_refl _) ?_; intro w5 hmade hgm)
  have hdone := Bools.made hmade
  have hdl := hdone.lt
  have b5 : Below w4.heap.size w4 w5 := (Below.refl _ _).grown hgm (Nat.le_refl _) (by simp)
  clear hmade hgm r0 r1 r2 r3 r4 r5 r6 r7 r8
  go_wp2
  go_loopg [8] rl.length (fun g vo wr => ∃ out : List Nat, out.length + g = rl.length ∧ (∀ i ∈ out, i < rl.length) ∧ OwnInts wr (w4.heap.size + 1) vo (zs out) ∧ Bools wr w4.heap.size rl.length (fun k => decide (k ∈ out)) ∧
    Hid (order (ofList l) rl = orderGo (ofList l) rl (rl.length - out.length) out) ∧ Below w4.heap.size w4 wr)
  case atStart => exact ⟨[], by simp, by simp, World.ownsRow_nil _ _ _ _, hdone.congr (fun k _ => by simp), Lib.hid rfl, b5⟩
  case round =>
    obtain ⟨out, hog, hall, hout, hdn, HO, hb⟩ := hrel
    obtain ⟨wo, rfl⟩ : ∃ x : World, x = wr := ⟨_, rfl⟩
    obtain ⟨ao, co, rfl⟩ := hout.lenz
    have dO := d4.trans (hb.mono s4)
    have cO := below_trans b0 dO
    obtain ⟨r0, r1, r2, r3, r4, r5, r6, r7, r8⟩ := hxR _ dO
    have hdnl := hdn.lt
    have hol2 := own_from hout
    cases gk with
    | zero =>
      have he : out.length = rl.length := by omega
      have HE := Lib.hid he
      clear he
      have hRR : (Ro, Rc) = (zs out, (0 : Int)) := by rw [HR.out, HO.out, orderGo_end (by have := HE.out; omega)]
      simp only [Prod.mk.injEq] at hRR
      obtain ⟨rfl, rfl⟩ := hRR
      have hd : ¬ out.length < rl.length := by have := HE.out; omega
      have hio := hout.is (by rw [zs_length]; omega)
      go_wp2_with fail
      refine (ints_alike (hve.keep (keeps_below hb)) hio).mono ?_
      rintro e w6 ⟨rfl, b6⟩
      go_wp2
      go_ret
      exact ⟨rfl, below_trans cO b6⟩
    | succ g =>
      have hol : out.length < rl.length := by omega
      go_wp2_with fail
      refine (after_any ⟨rn, rp, ra, rt, rk, ren, rev, rei, .slice ab rl.length cb, rl, rat⟩ v l _ out out.length _ (h.keep (keeps_below cO)) (hs.keep (keeps_below cO)) (hout.is (by rw [zs_length]; omega)) hfit (by omega) (Nat.le_refl _) (by omega) hall).mono ?_
      rintro e w6 ⟨vn, nl, rfl, hnl, hnlA, hnames, b6⟩
      rw [List.take_length] at hnlA
      dsimp only at hnlA
      have HS := Lib.hid hnlA
      clear hnlA r0 r1 r2 r3 r4 r5 r6 r7 r8
      have d6 := below_trans dO b6
      have c6 := below_trans b0 d6
      go_wp2
      go_loopw [10, 12] (fun nv iv wr2 => ∃ k : Nat, k ≤ rl.length ∧ iv = .int .i64 k ∧ ((nv = .int .i64 (-1) ∧ Hid (∀ j, j < k → cand (ofList l) rl out j = false)) ∨ ∃ c : Nat, nv = .int .i64 c ∧ c < rl.length ∧ Hid (nextOf (ofList l) rl out = some c)) ∧ Below w6.heap.size w6 wr2) (fun _ iv _ => rl.length - (intOf iv).toNat)
      case atStart => exact ⟨0, by simp, rfl, .inl ⟨rfl, Lib.hid (fun j hj => by omega)⟩, Below.refl _ _⟩
      case round =>
        obtain ⟨k, hk, rfl, hcase, hb2⟩ := hrel
        have hbo := below_trans b6 hb2
        have dW := below_trans d6 hb2
        have cW := below_trans b0 dW
        obtain ⟨-, -, -, -, -, -, -, r7, -⟩ := hxR _ dW
        have hd2 := hdn.keep hbo
        by_cases hlt : k < rl.length
        · obtain ⟨b', off, rfl, c0, c1, c2, c3, c4, c5, c6, c7, c8⟩ := lits_at (hlits.keep (keeps_below cW)) (List.getElem?_eq_getElem hlt)
          have hq := hok rl[k] (List.getElem_mem hlt)
          have hq6 := hfit2 rl[k] (List.getElem_mem hlt)
          have HC := Lib.hid (cand_at (ofList l) rl out k hlt)
          have cd := hd2.cell hlt
          generalize rl[k] = q at *
          obtain ⟨pa, pc, hqa, -, hqm⟩ := id hq
          obtain ⟨qk, qn, qp, qa, qt, qb, qe, ql, qo, qat⟩ := q
          dsimp only at *
          subst hqa
          rcases hcase with ⟨rfl, HN⟩ | ⟨c, rfl, hc, HX⟩
          · by_cases hin : k ∈ out
            · rw [decide_eq_true hin] at cd
              have HN' := Lib.hid (show ∀ j, j < k + 1 → cand (ofList l) rl out j = false from fun j hj => by
                rcases (show j < k ∨ j = k from by omega) with h | h
                · exact HN.out j h
                · rw [h, HC.out, decide_eq_true hin]; rfl)
              clear hin
              go_wp2
              go_roundw
              case rel => exact ⟨k + 1, by omega, by go_num, .inl ⟨rfl, HN'⟩, hb2⟩
              case measure => simp [intOf]; omega
            · rw [decide_eq_false hin] at cd
              have hyes : ready (aft (ofList l) rl out) ⟨qk, qn, qp, .slice pa qt.length pc, qt, qb, qe, ql, qo, qat⟩ = true → Hid (nextOf (ofList l) rl out = some k) := fun e =>
                Lib.hid (next_some hlt HN.out (by rw [HC.out, decide_eq_false hin, e]; rfl))
              have hno : ready (aft (ofList l) rl out) ⟨qk, qn, qp, .slice pa qt.length pc, qt, qb, qe, ql, qo, qat⟩ = false → Hid (∀ j, j < k + 1 → cand (ofList l) rl out j = false) := fun e =>
                Lib.hid fun j hj => by
                  rcases (show j < k ∨ j = k from by omega) with h | h
                  · exact HN.out j h
                  · rw [h, HC.out, decide_eq_false hin, e]; rfl
              clear hin
              go_wp2_with fail
              refine (ready1_any ⟨qk, qn, qp, .slice pa qt.length pc, qt, qb, qe, ql, qo, qat⟩ vn nl _ (hq.keep (keeps_below cW)) (hnames.keep (keeps_below hb2)) hq6 (by omega)).mono ?_
              rw [HS.out]
              rintro e w7 ⟨rfl, b7⟩
              cases hr : ready (aft (ofList l) rl out) ⟨qk, qn, qp, .slice pa qt.length pc, qt, qb, qe, ql, qo, qat⟩
              · have HN' := hno hr
                clear hno hyes
                go_wp2
                go_roundw
                case rel => exact ⟨k + 1, by omega, by go_num, .inl ⟨rfl, HN'⟩, below_trans hb2 b7⟩
                case measure => simp [intOf]; omega
              · have HX := hyes hr
                clear hno hyes
                go_wp2
                go_roundw
                case rel => exact ⟨k + 1, by omega, by go_num, .inr ⟨k, rfl, hlt, HX⟩, below_trans hb2 b7⟩
                case measure => simp [intOf]; omega
          · have hcn : ¬ (c : Int) < 0 := by omega
            go_wp2
            go_roundw
            case rel => exact ⟨k + 1, by omega, by go_num, .inr ⟨c, rfl, hc, HX⟩, hb2⟩
            case measure => simp [intOf]; omega
        · rcases hcase with ⟨rfl, HN⟩ | ⟨c, rfl, hc, HX⟩
          · have he : k = rl.length := by omega
            have hRR : (Ro, Rc) = (([] : List Int), (80 : Int)) := by rw [HR.out, HO.out, orderGo_none hol (next_none (by have := HN.out; rwa [he] at this))]
            simp only [Prod.mk.injEq] at hRR
            obtain ⟨rfl, rfl⟩ := hRR
            clear he
            go_wp2
            go_ret
            exact ⟨rfl, cW⟩
          · have hcn : ¬ (c : Int) < 0 := by omega
            have cd := hd2.cell hc
            have fd := hd2.frozen c
            have ho2 := World.ownsRow.kept hout (grown_none hbo none) (by cases Value.ownBlock _ <;> simp)
            have g6 := grown_setCell wr ⟨w4.heap.size, c, none⟩ (.bool true)
            have g6s := g6.size
            have hwbo := hbo.size
            have ho6 := World.ownsRow.kept ho2 g6 (Or.inr fun e => by have := hol2 _ e; dsimp only at this; omega)
            have hd6 := (hd2.set c true).congr (g := fun i => decide (i ∈ out ++ [c])) (fun i _ => by by_cases e : i = c <;> simp [e])
            have hb6 := (hb.trans (hbo.mono hb.size)).grown g6 (by have := hb.size; omega) (by simp)
            have hbs6 := hb6.size
            have hn1 : (zs out).length + 1 ≤ maxLen := by unfold maxLen; rw [zs_length]; omega
            have hn2 : ((zs out).length + 1) * 8 ≤ 140737488355328 := by rw [zs_length]; omega
            have ho7 := World.ownsRow.alloc ho6 (.cells #[.int .i64 c] 3)
            go_wp2_with (at_builtin; refine wpList_append_own _ rfl _ _ 29 rfl (w4.heap.size + 1) 3 i1 (.int .i64 0) 1 8 Try.underlying29 hi' hz0' hz1' hz2' rfl (by decide) _ _ _ rfl ho7 ⟨wr.heap.size, 0, none⟩ 1 1 [.int .i64 c] rfl rfl (cell_int' _ _ _ _) (by simp [Value.oneCell']) hn1 hn2 (by simp; omega) ?_; intro v' w7 hown' hgrow _)
            have hb7 := (hb6.alloc hbs6 (.cells #[.int .i64 c] 3)).grown hgrow (by simp; omega) (fun j hj => by have := hol2 j hj; omega)
            have hd7 := (hd6.alloc (.cells #[.int .i64 c] 3)).kept hgrow (fun e => by have := hol2 _ e.symm; omega)
            go_roundg g
            case rel =>
              refine ⟨out ++ [c], by simp; omega, ?_, ?_, hd7, Lib.hid (by rw [HO.out, orderGo_some hol HX.out]), hb7⟩
              · intro i hi
                rcases List.mem_append.1 hi with hi | hi
                · exact hall i hi
                · have : i = c := by simpa using hi
                  omega
              · unfold OwnInts
                simpa [zs, List.flatMap_append, encI] using hown'
            case measure => omega
end Go.Proofs.Ytnibgmmoebmnlaa
