/- The walk of the given program's Order. -/
import Derived.Test.YtnibgmmoebmnlaaOrd
import Derived.WalkMore
import Derived.Deep.LoopGhost
namespace Go.Proofs.Ytnibgmmoebmnlaa
open Go.RowKit
set_option maxHeartbeats 4000000 in
set_option maxRecDepth 100000 in
theorem Order_any (r : Rl) (v : Value) (l : List Nm) (w : World) (h : RuleOk w r) (hs : IsNames w v l) (hf : Fits r) (hl : l.length ≤ 1000) :
    Calls Try.prog 15 #[ruleV r, v] w fun e w' => (∃ ve, e = .returned (.tuple #[ve, .int .i64 (orderR r l).2]) ∧ IsInts w' ve (orderR r l).1) ∧ Below w.heap.size w w' := by
  obtain ⟨i0, hi, hz0, hz1, hz2⟩ := info_parts info4'
  obtain ⟨i1, hi', hz0', hz1', hz2'⟩ := info_parts info3'
  obtain ⟨-, ⟨ab, cb, hb, hlits, hmb⟩, hok⟩ := h
  obtain ⟨hf1, hf2⟩ := hf
  obtain ⟨R, hR⟩ : ∃ R, orderR r l = R := ⟨_, rfl⟩
  have HR := Lib.hid (show R = match order (ofList l) r.lits with | some out => (zs out, 0) | none => ([], 80) from by rw [← hR]; rfl)
  rw [hR]
  clear hR
  obtain ⟨rn, rp, ra, rt, rk, ren, rev, rei, rb, rl, rat⟩ := r
  dsimp only at *
  subst hb
  unfold ruleV
  obtain ⟨wb, hwb⟩ : ∃ x : World, x = w.alloc (.cells #[.string rn.1, .int .i64 rp, ra, .int .i64 rk, .string ren.1, .string rev.1, .int .i64 rei, .slice ab rl.length cb, .int .i64 rat] 27) := ⟨_, rfl⟩
  have b0 : Below w.heap.size w wb := by subst hwb; exact (Below.refl _ _).alloc (Nat.le_refl _) _
  have hbs : wb.heap.size = w.heap.size + 1 := by subst hwb; simp
  have hx7 : ∀ w', Below wb.heap.size wb w' → w'.cell? ⟨w.heap.size, 7, none⟩ = some (.slice ab rl.length cb) := by subst hwb; exact fun w' hb => boxed (j := 7) rfl hb
  go_enter Try.func15, Try.ntmps15
  go_wp2
  rw [← hwb]
  clear hwb
  go_step3
  go_wp2_with fail
  refine (of_any v l _ (hs.keep (keeps_below b0))).mono ?_
  rintro e w1 ⟨m, rfl, hm, hset, b1⟩
  have x7 := hx7 _ b1
  have s1 := b1.size
  have hml := hset.lt
  go_wp2_with (at_make; refine wpList_make_full _ rfl _ _ 54 rfl w1.heap.size 4 i0 (.bool false) 1 Try.underlying54 hi hz0 hz1 .i64 .i64 (rl.length : Int) (rl.length : Int) rl.length rfl rfl rfl rfl (by rw [hz2]; omega) (by unfold maxLen; omega) (Nat.le_refl _) ?_; intro w2 hmade hgm)
  have hdone := Bools.made hmade
  have hdl := hdone.lt
  have b2 : Below wb.heap.size wb w2 := b1.grown hgm s1 (by simp)
  have hset2 := hset.kept hgm (by simp)
  clear hset hmade x7
  go_step3
  go_wp2
  go_loopg [8] rl.length (fun g vo wr => ∃ out : List Nat, out.length + g = rl.length ∧ OwnInts wr (w1.heap.size + 1) vo (zs out) ∧ SetAt wr m (l.length + 6 * out.length) (aft (ofList l) rl out) ∧ Bools wr w1.heap.size rl.length (fun k => decide (k ∈ out)) ∧
    Hid (order (ofList l) rl = orderGo (ofList l) rl (rl.length - out.length) out) ∧ Below wb.heap.size wb wr)
  case atStart => exact ⟨[], by simp, World.ownsRow_nil _ _ _ _, hset2, hdone.congr (fun k _ => by simp), Lib.hid rfl, b2⟩
  case round =>
    obtain ⟨out, hog, hout, hset, hdn, HO, hb⟩ := hrel
    obtain ⟨wo, rfl⟩ : ∃ x : World, x = wr := ⟨_, rfl⟩
    obtain ⟨ao, co, rfl⟩ := hout.lenz
    have x7 := hx7 _ hb
    cases gk with
    | zero =>
      have he : out.length = rl.length := by omega
      have HE := Lib.hid he
      clear he
      have HO' := Lib.hid (show R = (zs out, 0) by rw [HR.out, HO.out, orderGo_end (by have := HE.out; omega)])
      have hd : ¬ out.length < rl.length := by have := HE.out; omega
      go_wp2
      try rw [Exit.noGoto_ret]
      go_ret2
      refine ⟨⟨_, by rw [HO'.out]; rfl, ?_⟩, below_trans b0 hb⟩
      rw [HO'.out]
      exact hout.is (by simp [zs]; omega)
    | succ g =>
      have hol : out.length < rl.length := by omega
      go_wp2
      go_loopg [8, 26] rl.length (fun g2 v8 iv wr2 => v8 = .slice ao out.length co ∧ ∃ k : Nat, k + g2 = rl.length ∧ iv = .int .i64 k ∧ Hid (∀ j, j < k → cand (ofList l) rl out j = false) ∧ Below wo.heap.size wo wr2)
      case atStart => exact ⟨rfl, 0, by simp, rfl, Lib.hid (fun j hj => by omega), Below.refl _ _⟩
      case round =>
        obtain ⟨rfl, k, hkg, rfl, HN, hb2⟩ := hrel
        cases gk with
        | zero =>
          have he : k = rl.length := by omega
          have HO' := Lib.hid (show R = ([], 80) by rw [HR.out, HO.out, orderGo_none hol (next_none (by have := HN.out; rwa [he] at this))])
          have hd : ¬ k < rl.length := by omega
          clear he
          go_wp2
          try rw [Exit.noGoto_ret]
          go_ret2
          refine ⟨⟨_, by rw [HO'.out]; rfl, ?_⟩, below_trans b0 (hb.trans (hb2.mono hb.size))⟩
          rw [HO'.out]
          exact ⟨none, 0, rfl, .inl rfl, by simp⟩
        | succ g2 =>
          have hlt : k < rl.length := by omega
          have hbw := below_trans b0 (hb.trans (hb2.mono hb.size))
          obtain ⟨b', off, rfl, c0, c1, c2, c3, c4, c5, c6, c7, c8⟩ := lits_at (hlits.keep (keeps_below hbw)) (List.getElem?_eq_getElem hlt)
          have hq := hok rl[k] (List.getElem_mem hlt)
          have hq6 := hf2 rl[k] (List.getElem_mem hlt)
          have HC := Lib.hid (cand_at (ofList l) rl out k hlt)
          have HA := Lib.hid (aft_snoc (ofList l) rl out k hlt)
          have cd : ∀ o, (wr.alloc o).cell? ⟨w1.heap.size, k, none⟩ = some (.bool (decide (k ∈ out))) := fun o => ((hdn.keep hb2).alloc o).cell hlt
          generalize rl[k] = q at *
          obtain ⟨pa, pc, hqa, -, hqm⟩ := id hq
          obtain ⟨qk, qn, qp, qa, qt, qb, qe, ql, qo, qat⟩ := q
          dsimp only at *
          subst hqa
          by_cases hin : k ∈ out
          · have hcn := HC.out
            rw [decide_eq_true hin] at cd hcn
            have HN' := Lib.hid (show ∀ j, j < k + 1 → cand (ofList l) rl out j = false from fun j hj => by
              rcases (show j < k ∨ j = k from by omega) with h | h
              · exact HN.out j h
              · rw [h, hcn]; rfl)
            clear hcn hin
            go_wp2
            go_roundg g2
            case rel => exact ⟨rfl, k + 1, by omega, by go_num, HN', hb2.alloc hb2.size _⟩
            case measure => omega
          · rw [decide_eq_false hin] at cd
            have hcn := HC.out
            rw [decide_eq_false hin] at hcn
            have hyes : ready (aft (ofList l) rl out) ⟨qk, qn, qp, .slice pa qt.length pc, qt, qb, qe, ql, qo, qat⟩ = true → Hid (nextOf (ofList l) rl out = some k) := fun e =>
              Lib.hid (next_some hlt HN.out (by rw [hcn, e]; rfl))
            have hno : ready (aft (ofList l) rl out) ⟨qk, qn, qp, .slice pa qt.length pc, qt, qb, qe, ql, qo, qat⟩ = false → Hid (∀ j, j < k + 1 → cand (ofList l) rl out j = false) := fun e =>
              Lib.hid fun j hj => by
                rcases (show j < k ∨ j = k from by omega) with h | h
                · exact HN.out j h
                · rw [h, hcn, e]; rfl
            clear hcn
            have hs2 := hset.keep hb2
            have hd2 := hdn.keep hb2
            have ho2 := World.ownsRow.kept hout (grown_none hb2 none) (by cases Value.ownBlock _ <;> simp)
            have hol2 := own_from hout
            have hbs2 := hb2.size
            have hbq := hbw.alloc hbw.size (.cells #[.int .i64 qk, .string qn.1, .int .i64 qp, .slice pa qt.length pc, .string qb.1, .string qe.1, .int .i64 ql, .int .i64 qo, .int .i64 qat] 58)
            go_wp2_with fail
            refine (ready_any m _ _ ⟨qk, qn, qp, .slice pa qt.length pc, qt, qb, qe, ql, qo, qat⟩ _ (hs2.alloc _) (hq.keep (keeps_below hbq))).mono ?_
            rintro e w4 ⟨rfl, b4⟩
            have b4' := b4.size
            simp at b4'
            have hb4 : Below wo.heap.size wo w4 := (hb2.alloc hbs2 _).trans (b4.mono (by simp; omega))
            cases hr : ready (aft (ofList l) rl out) ⟨qk, qn, qp, .slice pa qt.length pc, qt, qb, qe, ql, qo, qat⟩
            · have HN' := hno hr
              clear hno hyes
              go_wp2
              go_roundg g2
              case rel => exact ⟨rfl, k + 1, by omega, by go_num, HN', hb4⟩
              case measure => omega
            · have HX := hyes hr
              clear hno hyes
              have x0 := boxed (j := 0) rfl b4
              have x1 := boxed (j := 1) rfl b4
              have x2 := boxed (j := 2) rfl b4
              have x3 := boxed (j := 3) rfl b4
              have x4 := boxed (j := 4) rfl b4
              have x5 := boxed (j := 5) rfl b4
              have x6 := boxed (j := 6) rfl b4
              have x7 := boxed (j := 7) rfl b4
              have x8 := boxed (j := 8) rfl b4
              go_wp2_with fail
              refine (add_any m _ _ ⟨qk, qn, qp, .slice pa qt.length pc, qt, qb, qe, ql, qo, qat⟩ _ (hset.keep hb4) (hq.keep (keeps_below (below_trans hbq b4))) (by dsimp only; omega)).mono ?_
              rintro e w5 ⟨rfl, hset5, g5⟩
              have hd5 := (hdn.keep hb4).kept g5 (by simp; omega)
              have ho5 := World.ownsRow.kept (World.ownsRow.kept hout (grown_none hb4 none) (by cases Value.ownBlock _ <;> simp)) g5 (Or.inr fun e => by have := hol2 _ e; omega)
              clear x0 x1 x2 x3 x4 x5 x6 x7 x8 cd c0 c1 c2 c3 c4 c5 c6 c7 c8
              have cd := hd5.cell hlt
              have fd := hd5.frozen k
              have s5 := g5.size
              have hbs' := hb.size
              have hdnl := hdn.lt
              have hbs4 := hb4.size
              have g6 := grown_setCell w5 ⟨w1.heap.size, k, none⟩ (.bool true)
              have ho6 := World.ownsRow.kept ho5 g6 (Or.inr fun e => by have := hol2 _ e; dsimp only at this; omega)
              have hset6 := hset5.setCell (a := ⟨w1.heap.size, k, none⟩) (by simp; omega) (.bool true)
              have hd6 := (hd5.set k true).congr (g := fun j => decide (j ∈ out ++ [k])) (fun j _ => by by_cases e : j = k <;> simp [e])
              have hb5 := ((hb.trans (hb4.mono hb.size)).grown g5 (by omega) (by simp; omega)).grown g6 (by omega) (by simp; omega)
              have hn1 : (zs out).length + 1 ≤ maxLen := by unfold maxLen; rw [zs_length]; omega
              have hn2 : ((zs out).length + 1) * 8 ≤ 140737488355328 := by rw [zs_length]; omega
              have ho7 := World.ownsRow.alloc ho6 (.cells #[.int .i64 k] 3)
              go_wp2_with (at_builtin; refine wpList_append_own _ rfl _ _ 29 rfl (w1.heap.size + 1) 3 i1 (.int .i64 0) 1 8 Try.underlying29 hi' hz0' hz1' hz2' rfl (by decide) _ _ _ rfl ho7 ⟨w5.heap.size, 0, none⟩ 1 1 [.int .i64 k] rfl rfl (cell_int' _ _ _ _) (by simp [Value.oneCell']) hn1 hn2 (by simp; omega) ?_; intro v' w6 hown' hgrow _)
              have hb6 := (hb5.alloc (by simp; omega) (.cells #[.int .i64 k] 3)).grown hgrow (by simp; omega) (fun j hj => by have := hol2 j hj; omega)
              have hset7 := (hset6.alloc (.cells #[.int .i64 k] 3)).kept hgrow (fun e => by have := hol2 _ e.symm; omega)
              have hd7 := (hd6.alloc (.cells #[.int .i64 k] 3)).kept hgrow (fun e => by have := hol2 _ e.symm; omega)
              go_roundg g
              case rel =>
                refine ⟨out ++ [k], by simp; omega, ?_, (hset7.mono (by simp; omega)).congr (fun x => by rw [HA.out]), hd7, Lib.hid (by rw [HO.out, orderGo_some hol HX.out]), hb6⟩
                unfold OwnInts
                simpa [zs, List.flatMap_append, encI] using hown'
              case measure => omega
end Go.Proofs.Ytnibgmmoebmnlaa
