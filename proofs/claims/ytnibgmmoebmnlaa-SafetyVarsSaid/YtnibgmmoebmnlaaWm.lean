/- The walk of the reference's Vars. -/
import Derived.Test.YtnibgmmoebmnlaaWl
namespace Go.Proofs.Ytnibgmmoebmnlaa
open Go.RowKit
theorem OwnNames.kept' {w w' : World} {base : Nat} {v u : Value} {l : List Nm} (h : OwnNames w base v l) (hg : w.grownBy w' u.ownBlock) (hd : ∀ j, u.ownBlock = some j → v.ownBlock ≠ some j) : OwnNames w' base v l :=
  World.ownsRow.kept h hg (by
    rcases hv : v.ownBlock with _ | i
    · left; rfl
    · right; exact fun e => hd i e.symm hv)
theorem moved_apart {w : World} {v v' u : Value} (hm : Moved w v v') (hd : ∀ j, v.ownBlock = some j → u.ownBlock ≠ some j) (hl : ∀ j, u.ownBlock = some j → j < w.heap.size) : ∀ j, v'.ownBlock = some j → u.ownBlock ≠ some j := by
  intro j hj e
  rcases hm with hm | hm
  · exact hd j (hm ▸ hj) e
  · have := hm j hj; have := hl j e; omega
set_option maxHeartbeats 4000000 in
set_option maxRecDepth 100000 in
theorem rVars_any (r : Rl) (w : World) (h : RuleOk w r) (hf : Fits r) :
    Calls Try.prog 14 #[ruleV r] w fun e w' => (∃ va vb, e = .returned (.tuple #[va, vb]) ∧ IsNames w' va (ordV r.lits) ∧ IsNames w' vb (latV r.lits)) ∧ Below w.heap.size w w' := by
  obtain ⟨-, ⟨ab, cb, hb, hlits, hmb⟩, hok⟩ := h
  obtain ⟨hf1, hf2⟩ := hf
  obtain ⟨rn, rp, ra, rt, rk, ren, rev, rei, rb, rl, rat⟩ := r
  dsimp only at *
  subst hb
  unfold ruleV
  obtain ⟨wb, hwb⟩ : ∃ x : World, x = w.alloc (.cells #[.string rn.1, .int .i64 rp, ra, .int .i64 rk, .string ren.1, .string rev.1, .int .i64 rei, .slice ab rl.length cb, .int .i64 rat] 27) := ⟨_, rfl⟩
  have b0 : Below w.heap.size w wb := by subst hwb; exact (Below.refl _ _).alloc (Nat.le_refl _) _
  have hbs : wb.heap.size = w.heap.size + 1 := by subst hwb; simp
  have hx7 : ∀ w', Below wb.heap.size wb w' → w'.cell? ⟨w.heap.size, 7, none⟩ = some (.slice ab rl.length cb) := by subst hwb; exact fun w' hb => boxed (j := 7) rfl hb
  go_enter Try.func14, Try.ntmps14
  go_wp2
  rw [← hwb]
  clear hwb
  go_loopw [4, 5, 6] (fun v2 v3 iv wr => ∃ k : Nat, k ≤ rl.length ∧ iv = .int .i64 k ∧ ∃ A B : List Nm, A.length ≤ 6 * k ∧ B.length ≤ k ∧ Hid (A = ordV (rl.take k)) ∧ Hid (B = latV (rl.take k)) ∧ OwnNames wr wb.heap.size v2 A ∧ OwnNames wr wb.heap.size v3 B ∧
    (∀ j, v2.ownBlock = some j → v3.ownBlock ≠ some j) ∧ Below wb.heap.size wb wr) (fun _ _ iv _ => rl.length - (intOf iv).toNat)
  case atStart => exact ⟨0, by simp, rfl, [], [], by simp, by simp, Lib.hid rfl, Lib.hid rfl, World.ownsRow_nil _ _ _ _, World.ownsRow_nil _ _ _ _, fun j hj => by simp [Value.ownBlock], Below.refl _ _⟩
  case round =>
    obtain ⟨k, hk, rfl, A, B, hAl, hBl, HA, HB, hA, hB, hdis, hb⟩ := hrel
    have x7 := hx7 _ hb
    have hbw := below_trans b0 hb
    have hbs' := hb.size
    by_cases hlt : k < rl.length
    · obtain ⟨b', off, rfl, c0, c1, c2, c3, c4, c5, c6, c7, c8⟩ := lits_at (hlits.keep (keeps_below hbw)) (List.getElem?_eq_getElem hlt)
      have HCS := fun w' (bb : Below w.heap.size w w') => lits_cells (hlits.keep (keeps_below bb)) (List.getElem?_eq_getElem hlt)
      have hq := hok rl[k] (List.getElem_mem hlt)
      have hq6 := hf2 rl[k] (List.getElem_mem hlt)
      have HT := Lib.hid (List.take_succ_eq_append_getElem hlt)
      generalize rl[k] = q at *
      obtain ⟨pa, pc, hqa, hq', hqm⟩ := id hq
      obtain ⟨qk, qn, qp, qa, qt, qb, qe, ql, qo, qat⟩ := q
      dsimp only at *
      subst hqa
      have HA3 := Lib.hid (show bindN A qt = ordV (rl.take (k + 1)) by rw [HT.out, ordV_snoc, HA.out])
      go_wp2_with fail
      refine (Bind_any wb _ A ⟨qk, qn, qp, .slice pa qt.length pc, qt, qb, qe, ql, qo, qat⟩ _ hA (hq.keep (keeps_below b0)) hb (by dsimp only; omega)).mono ?_
      rintro e w5 ⟨v', rfl, hA5, g5, hmv⟩
      dsimp only at hA5
      have s5 := g5.size
      have hle5 := bindN_le A qt
      have hb5 := hb.grown g5 hbs' (own_from hA)
      have hbw5 := below_trans b0 hb5
      have hB5 := hB.kept' g5 hdis
      have hdis5 := moved_apart hmv hdis (own_lt hB)
      clear x7 c0 c1 c2 c3 c4 c5 c6 c7 c8
      have x7 := hx7 _ hb5
      obtain ⟨c0, c1, c2, c3, c4, c5, c6, c7, c8⟩ := HCS _ hbw5
      clear HCS
      by_cases hk1 : qk = 1
      · have HB1 := Lib.hid (show addN B qb = latV (rl.take (k + 1)) by rw [HT.out, latV_snoc, HB.out]; simp [hk1])
        subst hk1
        go_wp2_with fail
        refine (radd_any wb.heap.size _ B qb _ hB5 (by omega) hb5.size).mono ?_
        rintro e w6 ⟨v3', rfl, hB6, g6, hmv6⟩
        have hb6 := hb5.grown g6 hb5.size (own_from hB5)
        have hle6 := addN_le B qb
        have hA6 := hA5.kept' g6 (fun j hj e => hdis5 j e hj)
        have hdis6 := moved_apart hmv6 (fun j hj e => hdis5 j e hj) (own_lt hA5)
        clear c0 c1 c2 c3 c4 c5 c6 c7 c8 x7
        go_wp2
        go_roundw
        case rel => exact ⟨k + 1, by omega, by go_num, bindN A qt, addN B qb, by omega, by omega, HA3, HB1, hA6, hB6, fun j hj e => hdis6 j e hj, hb6⟩
        case measure => simp [intOf]; omega
      · have HB1 := Lib.hid (show B = latV (rl.take (k + 1)) by rw [HT.out, latV_snoc, HB.out]; simp [hk1])
        have qk1 := ne_beq hk1
        go_wp2
        go_roundw
        case rel => exact ⟨k + 1, by omega, by go_num, bindN A qt, B, by omega, by omega, HA3, HB1, hA5, hB5, hdis5, hb5⟩
        case measure => simp [intOf]; omega
    · have he : k = rl.length := by omega
      have HA' := Lib.hid (show A = ordV rl by rw [HA.out, he, List.take_length])
      have HB' := Lib.hid (show B = latV rl by rw [HB.out, he, List.take_length])
      clear he
      go_wp2
      go_ret2
      exact ⟨⟨_, _, rfl, by rw [← HA'.out]; exact hA.is (by omega), by rw [← HB'.out]; exact hB.is (by omega)⟩, hbw⟩
end Go.Proofs.Ytnibgmmoebmnlaa
