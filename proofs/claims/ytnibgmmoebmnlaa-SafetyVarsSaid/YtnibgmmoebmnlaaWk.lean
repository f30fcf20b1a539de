/- The walk of the reference's Order. -/
import Derived.Test.YtnibgmmoebmnlaaWj
namespace Go.Proofs.Ytnibgmmoebmnlaa
open Go.RowKit
set_option maxHeartbeats 4000000 in
set_option maxRecDepth 100000 in
theorem rOrder_any (r : Rl) (v : Value) (l : List Nm) (w : World) (h : RuleOk w r) (hs : IsNames w v l) (hf : Fits r) (hl : l.length ≤ 1000) :
    Calls Try.prog 16 #[ruleV r, v] w fun e w' => (∃ ve, e = .returned (.tuple #[ve, .int .i64 (orderR r l).2]) ∧ IsInts w' ve (orderR r l).1) ∧ Below w.heap.size w w' := by
  obtain ⟨i0, hi, hz0, hz1, hz2⟩ := info_parts info4'
  obtain ⟨i1, hi', hz0', hz1', hz2'⟩ := info_parts info3'
  obtain ⟨-, ⟨ab, cb, hb, hlits, hmb⟩, hok⟩ := h
  obtain ⟨hf1, hf2⟩ := hf
  obtain ⟨R, hR⟩ : ∃ R, orderR r l = R := ⟨_, rfl⟩
  have HR := Lib.hid (show R = match order (ofList l) r.lits with | some out => (zs out, 0) | none => ([], 80) from by rw [← hR]; rfl)
  rw [hR]
  clear hR
  obtain ⟨rn, rp, ra, rt, rk, ren, rev, rei, rb, rl, rat⟩ := r
  dsimp only at *
  subst hb
  unfold ruleV
  obtain ⟨wb, hwb⟩ : ∃ x : World, x = w.alloc (.cells #[.string rn.1, .int .i64 rp, ra, .int .i64 rk, .string ren.1, .string rev.1, .int .i64 rei, .slice ab rl.length cb, .int .i64 rat] 27) := ⟨_, rfl⟩
  have b0 : Below w.heap.size w wb := by subst hwb; exact (Below.refl _ _).alloc (Nat.le_refl _) _
  have hbs : wb.heap.size = w.heap.size + 1 := by subst hwb; simp
  have hx7 : ∀ w', Below wb.heap.size wb w' → w'.cell? ⟨w.heap.size, 7, none⟩ = some (.slice ab rl.length cb) := by subst hwb; exact fun w' hb => boxed (j := 7) rfl hb
  go_enter Try.func16, Try.ntmps16
  go_wp2_with fail
  rw [← hwb]
  clear hwb
  refine (copied_any v l _ (hs.keep (keeps_below b0)) (by omega)).mono ?_
  rintro e w1 ⟨vn, rfl, hset, b1⟩
  have x7 := hx7 _ b1
  have s1 := b1.size
  have hml := own_lt hset
  go_wp2_with (at_make; refine wpList_make_full _ rfl _ _ 54 rfl w1.heap.size 4 i0 (.bool false) 1 Try.underlying54 hi hz0 hz1 .i64 .i64 (rl.length : Int) (rl.length : Int) rl.length rfl rfl rfl rfl (by rw [hz2]; omega) (by unfold maxLen; omega) (Nat.le_refl _) ?_; intro w2 hmade hgm)
  have hdone := Bools.made hmade
  have hdl := hdone.lt
  have b2 : Below wb.heap.size wb w2 := b1.grown hgm s1 (by simp)
  have hset2 : OwnNames w2 wb.heap.size vn l := World.ownsRow.kept hset hgm (by cases vn.ownBlock <;> simp)
  clear hset hmade x7
  go_wp2
  go_loopg [6, 8] rl.length (fun g vn vo wr => ∃ (out : List Nat) (nl : List Nm), out.length + g = rl.length ∧ nl.length ≤ l.length + 6 * out.length ∧ Hid (ofList nl = aft (ofList l) rl out) ∧ OwnNames wr wb.heap.size vn nl ∧ vn.ownBlock ≠ some w1.heap.size ∧
    OwnInts wr (w1.heap.size + 1) vo (zs out) ∧ (∀ j, vn.ownBlock = some j → vo.ownBlock ≠ some j) ∧ Bools wr w1.heap.size rl.length (fun k => decide (k ∈ out)) ∧
    Hid (order (ofList l) rl = orderGo (ofList l) rl (rl.length - out.length) out) ∧ Below wb.heap.size wb wr)
  case atStart => exact ⟨[], l, by simp, by simp, Lib.hid rfl, hset2, fun e => by have := hml _ e; omega, World.ownsRow_nil _ _ _ _, fun j hj => by simp [Value.ownBlock], hdone.congr (fun k _ => by simp), Lib.hid rfl, b2⟩
  case round =>
    obtain ⟨out, nl, hog, hnl, HS, hset, hvd, hout, hvv, hdn, HO, hb⟩ := hrel
    obtain ⟨wo, rfl⟩ : ∃ x : World, x = wr := ⟨_, rfl⟩
    obtain ⟨vn', rfl⟩ : ∃ x, x = u6 := ⟨_, rfl⟩
    obtain ⟨ao, co, rfl⟩ := hout.lenz
    have x7 := hx7 _ hb
    have hdnl := hdn.lt
    have hbs' := hb.size
    cases gk with
    | zero =>
      have he : out.length = rl.length := by omega
      have HE := Lib.hid he
      clear he
      have HO' := Lib.hid (show R = (zs out, 0) by rw [HR.out, HO.out, orderGo_end (by have := HE.out; omega)])
      have hd : ¬ out.length < rl.length := by have := HE.out; omega
      go_wp2
      go_ret2
      refine ⟨⟨_, by rw [HO'.out]; rfl, ?_⟩, below_trans b0 hb⟩
      rw [HO'.out]
      exact hout.is (by simp [zs]; omega)
    | succ g =>
      have hol : out.length < rl.length := by omega
      go_wp2
      go_loopw [9, 10] (fun nv iv wr2 => ∃ k : Nat, k ≤ rl.length ∧ iv = .int .i64 k ∧ ((nv = .int .i64 (-1) ∧ Hid (∀ j, j < k → cand (ofList l) rl out j = false)) ∨ ∃ c : Nat, nv = .int .i64 c ∧ c < rl.length ∧ Hid (cand (ofList l) rl out c = true) ∧ Hid (nextOf (ofList l) rl out = some c)) ∧ Below wo.heap.size wo wr2) (fun _ iv _ => rl.length - (intOf iv).toNat)
      case atStart => exact ⟨0, by simp, rfl, .inl ⟨rfl, Lib.hid (fun j hj => by omega)⟩, Below.refl _ _⟩
      case round =>
        obtain ⟨k, hk, rfl, hcase, hb2⟩ := hrel
        have hbs2 := hb2.size
        have x7 := hx7 _ (hb.trans (hb2.mono hb.size))
        have hbw := below_trans b0 (hb.trans (hb2.mono hb.size))
        have hd2 := hdn.keep hb2
        have hs2 := hset.keep hb2
        rcases hcase with ⟨rfl, HN⟩ | ⟨c, rfl, hc, HCC, HX⟩
        · by_cases hlt : k < rl.length
          · obtain ⟨b', off, rfl, c0, c1, c2, c3, c4, c5, c6, c7, c8⟩ := lits_at (hlits.keep (keeps_below hbw)) (List.getElem?_eq_getElem hlt)
            have hq := hok rl[k] (List.getElem_mem hlt)
            have hq6 := hf2 rl[k] (List.getElem_mem hlt)
            have HC := Lib.hid (cand_at (ofList l) rl out k hlt)
            have cd := hd2.cell hlt
            generalize rl[k] = q at *
            obtain ⟨pa, pc, hqa, -, hqm⟩ := id hq
            obtain ⟨qk, qn, qp, qa, qt, qb, qe, ql, qo, qat⟩ := q
            dsimp only at *
            subst hqa
            by_cases hin : k ∈ out
            · rw [decide_eq_true hin] at cd
              have HN' := Lib.hid (show ∀ j, j < k + 1 → cand (ofList l) rl out j = false from fun j hj => by
                rcases (show j < k ∨ j = k from by omega) with h | h
                · exact HN.out j h
                · rw [h, HC.out, decide_eq_true hin]; rfl)
              clear hin
              go_wp2
              go_roundw
              case rel => exact ⟨k + 1, by omega, by go_num, .inl ⟨rfl, HN'⟩, hb2⟩
              case measure => simp [intOf]; omega
            · rw [decide_eq_false hin] at cd
              have hyes : ready (aft (ofList l) rl out) ⟨qk, qn, qp, .slice pa qt.length pc, qt, qb, qe, ql, qo, qat⟩ = true → Hid (nextOf (ofList l) rl out = some k) ∧ Hid (cand (ofList l) rl out k = true) := fun e =>
                have hh : cand (ofList l) rl out k = true := by rw [HC.out, decide_eq_false hin, e]; rfl
                ⟨Lib.hid (next_some hlt HN.out hh), Lib.hid hh⟩
              have hno : ready (aft (ofList l) rl out) ⟨qk, qn, qp, .slice pa qt.length pc, qt, qb, qe, ql, qo, qat⟩ = false → Hid (∀ j, j < k + 1 → cand (ofList l) rl out j = false) := fun e =>
                Lib.hid fun j hj => by
                  rcases (show j < k ∨ j = k from by omega) with h | h
                  · exact HN.out j h
                  · rw [h, HC.out, decide_eq_false hin, e]; rfl
              clear hin
              go_wp2_with fail
              refine (Ready_any _ nl ⟨qk, qn, qp, .slice pa qt.length pc, qt, qb, qe, ql, qo, qat⟩ _ (hs2.is (by omega)) (hq.keep (keeps_below hbw))).mono ?_
              rw [HS.out]
              rintro e w4 ⟨rfl, b4⟩
              have b4' := b4.size
              have hb4 := hb2.trans (b4.mono hbs2)
              cases hr : ready (aft (ofList l) rl out) ⟨qk, qn, qp, .slice pa qt.length pc, qt, qb, qe, ql, qo, qat⟩
              · have HN' := hno hr
                clear hno hyes
                go_wp2
                go_roundw
                case rel => exact ⟨k + 1, by omega, by go_num, .inl ⟨rfl, HN'⟩, hb4⟩
                case measure => simp [intOf]; omega
              · obtain ⟨HX, HCC⟩ := hyes hr
                clear hno hyes
                go_wp2
                go_roundw
                case rel => exact ⟨k + 1, by omega, by go_num, .inr ⟨k, rfl, hlt, HCC, HX⟩, hb4⟩
                case measure => simp [intOf]; omega
          · have he : k = rl.length := by omega
            have HO' := Lib.hid (show R = ([], 80) by rw [HR.out, HO.out, orderGo_none hol (next_none (by have := HN.out; rwa [he] at this))])
            clear he
            go_wp2
            go_ret2
            refine ⟨⟨_, by rw [HO'.out]; rfl, ?_⟩, hbw⟩
            rw [HO'.out]
            exact ⟨none, 0, rfl, .inl rfl, by simp⟩
        · have hcn : ¬ (c : Int) < 0 := by omega
          by_cases hlt : k < rl.length
          · obtain ⟨b', off, rfl, -⟩ := lits_at (hlits.keep (keeps_below hbw)) (List.getElem?_eq_getElem hc)
            have HCS := fun w' (bb : Below w.heap.size w w') => lits_cells (hlits.keep (keeps_below bb)) (List.getElem?_eq_getElem hc)
            have hq := hok rl[c] (List.getElem_mem hc)
            have hq6 := hf2 rl[c] (List.getElem_mem hc)
            have HA := Lib.hid (aft_snoc (ofList l) rl out c hc)
            generalize rl[c] = q at *
            obtain ⟨pa, pc, hqa, -, hqm⟩ := id hq
            obtain ⟨qk, qn, qp, qa, qt, qb, qe, ql, qo, qat⟩ := q
            dsimp only at *
            subst hqa
            have cd := hd2.cell hc
            have fd := hd2.frozen c
            have hol2 := own_from hout
            have hoh := hout.lt
            have ho2 := World.ownsRow.kept hout (grown_none hb2 none) (by cases Value.ownBlock _ <;> simp)
            have g6 := grown_setCell wr ⟨w1.heap.size, c, none⟩ (.bool true)
            have g6s := g6.size
            have hs6 : OwnNames (wr.setCell ⟨w1.heap.size, c, none⟩ (.bool true)) wb.heap.size vn' nl := World.ownsRow.kept hs2 g6 (Or.inr hvd)
            have ho6 := World.ownsRow.kept ho2 g6 (Or.inr fun e => by have := hol2 _ e; dsimp only at this; omega)
            have hd6 := (hd2.set c true).congr (g := fun i => decide (i ∈ out ++ [c])) (fun i _ => by by_cases e : i = c <;> simp [e])
            have hb6 := (hb.trans (hb2.mono hb.size)).grown g6 (by omega) (by simp; omega)
            have y7 := hx7 _ hb6
            have hbw6 := below_trans b0 hb6
            obtain ⟨c0, c1, c2, c3, c4, c5, c6, c7, c8⟩ := HCS _ hbw6
            clear HCS
            go_wp2_with fail
            refine (Bind_any wb _ nl ⟨qk, qn, qp, .slice pa qt.length pc, qt, qb, qe, ql, qo, qat⟩ _ hs6 (hq.keep (keeps_below b0)) hb6 (by dsimp only; omega)).mono ?_
            rintro e w5 ⟨v', rfl, hset5, g5, hmv⟩
            have s5 := g5.size
            have hd5 := hd6.kept g5 (fun e => hvd e.symm)
            have hb5 := hb6.grown g5 (by omega) (own_from hs6)
            have ho5 := World.ownsRow.kept ho6 g5 (by
              rcases hvn : vn'.ownBlock with _ | j
              · rcases hvo : (Value.slice ao out.length co).ownBlock with _ | j
                · left; rfl
                · right; simp
              · right; exact fun e => hvv j hvn e)
            have hvd5 : v'.ownBlock ≠ some w1.heap.size := by
              rcases hmv with hmv | hmv
              · rw [hmv]; exact hvd
              · intro e; have := hmv _ e; simp at this; omega
            have hvv5 : ∀ j, v'.ownBlock = some j → (Value.slice ao out.length co).ownBlock ≠ some j := by
              intro j hj e
              have h1 := (hoh _ e).2
              rcases hmv with hmv | hmv
              · rw [hmv] at hj; exact hvv j hj e
              · have := hmv _ hj; simp at this; omega
            have hlt5 := own_lt hset5
            have hle5 := bindN_le nl qt
            clear c0 c1 c2 c3 c4 c5 c6 c7 c8 cd fd x7 y7
            dsimp only at hset5
            have hn1 : (zs out).length + 1 ≤ maxLen := by unfold maxLen; rw [zs_length]; omega
            have hn2 : ((zs out).length + 1) * 8 ≤ 140737488355328 := by rw [zs_length]; omega
            have ho7 := World.ownsRow.alloc ho5 (.cells #[.int .i64 c] 3)
            go_wp2_with (at_builtin; refine wpList_append_lies _ rfl _ _ 29 rfl (w1.heap.size + 1) 3 i1 (.int .i64 0) 1 8 Try.underlying29 hi' hz0' hz1' hz2' rfl (by decide) _ _ _ rfl ho7 ⟨w5.heap.size, 0, none⟩ 1 1 [.int .i64 c] rfl rfl (cell_int _ _) (by simp [Value.oneCell']) (by decide) hn1 hn2 (by simp; omega) _ rfl ?_; intro gg cap w6 hown' hgrow hg1 hg2)
            have hb7 := (hb5.alloc (by omega) (.cells #[.int .i64 c] 3)).grown hgrow (by simp; omega) (fun j hj => by have := hol2 j hj; omega)
            have hs7 : OwnNames w6 wb.heap.size v' (bindN nl qt) := World.ownsRow.kept (World.ownsRow.alloc hset5 (.cells #[.int .i64 c] 3)) hgrow (by
              rcases hvn : v'.ownBlock with _ | j
              · left; rfl
              · right; exact fun e => hvv5 j hvn e.symm)
            have hd7 := (hd5.alloc (.cells #[.int .i64 c] 3)).kept hgrow (fun e => by have := hol2 _ e.symm; omega)
            go_roundg g
            case rel =>
              refine ⟨out ++ [c], bindN nl qt, by simp; omega, by simp; omega, Lib.hid (by rw [ofList_bindN, HS.out, HA.out]), hs7, hvd5, ?_, ?_, hd7, Lib.hid (by rw [HO.out, orderGo_some hol HX.out]), hb7⟩
              · unfold OwnInts
                simpa [zs, List.flatMap_append, encI] using hown'
              · intro j hj e
                have e' : gg = j := by simpa [Value.ownBlock] using e
                rcases hg1 with hg1 | hg1
                · exact hvv5 j hj (by rw [← e']; exact hg1)
                · have := hlt5 _ hj; simp at hg1; omega
            case measure => omega
          · obtain ⟨b', off, rfl, -⟩ := lits_at (hlits.keep (keeps_below hbw)) (List.getElem?_eq_getElem hc)
            have HCS := fun w' (bb : Below w.heap.size w w') => lits_cells (hlits.keep (keeps_below bb)) (List.getElem?_eq_getElem hc)
            have hq := hok rl[c] (List.getElem_mem hc)
            have hq6 := hf2 rl[c] (List.getElem_mem hc)
            have HA := Lib.hid (aft_snoc (ofList l) rl out c hc)
            generalize rl[c] = q at *
            obtain ⟨pa, pc, hqa, -, hqm⟩ := id hq
            obtain ⟨qk, qn, qp, qa, qt, qb, qe, ql, qo, qat⟩ := q
            dsimp only at *
            subst hqa
            have cd := hd2.cell hc
            have fd := hd2.frozen c
            have hol2 := own_from hout
            have hoh := hout.lt
            have ho2 := World.ownsRow.kept hout (grown_none hb2 none) (by cases Value.ownBlock _ <;> simp)
            have g6 := grown_setCell wr ⟨w1.heap.size, c, none⟩ (.bool true)
            have g6s := g6.size
            have hs6 : OwnNames (wr.setCell ⟨w1.heap.size, c, none⟩ (.bool true)) wb.heap.size vn' nl := World.ownsRow.kept hs2 g6 (Or.inr hvd)
            have ho6 := World.ownsRow.kept ho2 g6 (Or.inr fun e => by have := hol2 _ e; dsimp only at this; omega)
            have hd6 := (hd2.set c true).congr (g := fun i => decide (i ∈ out ++ [c])) (fun i _ => by by_cases e : i = c <;> simp [e])
            have hb6 := (hb.trans (hb2.mono hb.size)).grown g6 (by omega) (by simp; omega)
            have y7 := hx7 _ hb6
            have hbw6 := below_trans b0 hb6
            obtain ⟨c0, c1, c2, c3, c4, c5, c6, c7, c8⟩ := HCS _ hbw6
            clear HCS
            go_wp2_with fail
            refine (Bind_any wb _ nl ⟨qk, qn, qp, .slice pa qt.length pc, qt, qb, qe, ql, qo, qat⟩ _ hs6 (hq.keep (keeps_below b0)) hb6 (by dsimp only; omega)).mono ?_
            rintro e w5 ⟨v', rfl, hset5, g5, hmv⟩
            have s5 := g5.size
            have hd5 := hd6.kept g5 (fun e => hvd e.symm)
            have hb5 := hb6.grown g5 (by omega) (own_from hs6)
            have ho5 := World.ownsRow.kept ho6 g5 (by
              rcases hvn : vn'.ownBlock with _ | j
              · rcases hvo : (Value.slice ao out.length co).ownBlock with _ | j
                · left; rfl
                · right; simp
              · right; exact fun e => hvv j hvn e)
            have hvd5 : v'.ownBlock ≠ some w1.heap.size := by
              rcases hmv with hmv | hmv
              · rw [hmv]; exact hvd
              · intro e; have := hmv _ e; simp at this; omega
            have hvv5 : ∀ j, v'.ownBlock = some j → (Value.slice ao out.length co).ownBlock ≠ some j := by
              intro j hj e
              have h1 := (hoh _ e).2
              rcases hmv with hmv | hmv
              · rw [hmv] at hj; exact hvv j hj e
              · have := hmv _ hj; simp at this; omega
            have hlt5 := own_lt hset5
            have hle5 := bindN_le nl qt
            clear c0 c1 c2 c3 c4 c5 c6 c7 c8 cd fd x7 y7
            dsimp only at hset5
            have hn1 : (zs out).length + 1 ≤ maxLen := by unfold maxLen; rw [zs_length]; omega
            have hn2 : ((zs out).length + 1) * 8 ≤ 140737488355328 := by rw [zs_length]; omega
            have ho7 := World.ownsRow.alloc ho5 (.cells #[.int .i64 c] 3)
            go_wp2_with (at_builtin; refine wpList_append_lies _ rfl _ _ 29 rfl (w1.heap.size + 1) 3 i1 (.int .i64 0) 1 8 Try.underlying29 hi' hz0' hz1' hz2' rfl (by decide) _ _ _ rfl ho7 ⟨w5.heap.size, 0, none⟩ 1 1 [.int .i64 c] rfl rfl (cell_int _ _) (by simp [Value.oneCell']) (by decide) hn1 hn2 (by simp; omega) _ rfl ?_; intro gg cap w6 hown' hgrow hg1 hg2)
            have hb7 := (hb5.alloc (by omega) (.cells #[.int .i64 c] 3)).grown hgrow (by simp; omega) (fun j hj => by have := hol2 j hj; omega)
            have hs7 : OwnNames w6 wb.heap.size v' (bindN nl qt) := World.ownsRow.kept (World.ownsRow.alloc hset5 (.cells #[.int .i64 c] 3)) hgrow (by
              rcases hvn : v'.ownBlock with _ | j
              · left; rfl
              · right; exact fun e => hvv5 j hvn e.symm)
            have hd7 := (hd5.alloc (.cells #[.int .i64 c] 3)).kept hgrow (fun e => by have := hol2 _ e.symm; omega)
            go_roundg g
            case rel =>
              refine ⟨out ++ [c], bindN nl qt, by simp; omega, by simp; omega, Lib.hid (by rw [ofList_bindN, HS.out, HA.out]), hs7, hvd5, ?_, ?_, hd7, Lib.hid (by rw [HO.out, orderGo_some hol HX.out]), hb7⟩
              · unfold OwnInts
                simpa [zs, List.flatMap_append, encI] using hown'
              · intro j hj e
                have e' : gg = j := by simpa [Value.ownBlock] using e
                rcases hg1 with hg1 | hg1
                · exact hvv5 j hj (by rw [← e']; exact hg1)
                · have := hlt5 _ hj; simp at hg1; omega
            case measure => omega
end Go.Proofs.Ytnibgmmoebmnlaa
