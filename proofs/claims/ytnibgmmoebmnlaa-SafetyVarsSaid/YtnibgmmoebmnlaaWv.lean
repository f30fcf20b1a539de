/- The walk of occurs. -/
import Derived.Test.YtnibgmmoebmnlaaWu
namespace Go.Proofs.Ytnibgmmoebmnlaa
open Go.RowKit
set_option maxHeartbeats 2000000 in
set_option maxRecDepth 100000 in
theorem occursL_any (r : Rl) (x : Nm) (w : World) (h : RuleOk w r) :
    Calls Try.prog 30 #[ruleV r, .string x.1, .bool true] w fun e w' => e = .returned (.bool (r.lits.any fun q => decide (q.kind = 1) && decide (q.bind = x))) ∧ Below w.heap.size w w' := by
  obtain ⟨-, ⟨ab, cb, hb, hlits, hmb⟩, hok⟩ := h
  obtain ⟨R, hR⟩ : ∃ R, (r.lits.any fun q => decide (q.kind = 1) && decide (q.bind = x)) = R := ⟨_, rfl⟩
  have HR := Lib.hid hR
  rw [hR]
  clear hR
  obtain ⟨rn, rp, ra, rt, rk, ren, rev, rei, rb, rl, rat⟩ := r
  dsimp only at *
  subst hb
  unfold ruleV
  obtain ⟨wb, hwb⟩ : ∃ x : World, x = w.alloc (.cells #[.string rn.1, .int .i64 rp, ra, .int .i64 rk, .string ren.1, .string rev.1, .int .i64 rei, .slice ab rl.length cb, .int .i64 rat] 27) := ⟨_, rfl⟩
  have b0 : Below w.heap.size w wb := by subst hwb; exact (Below.refl _ _).alloc (Nat.le_refl _) _
  have x7 : wb.cell? ⟨w.heap.size, 7, none⟩ = some (.slice ab rl.length cb) := by subst hwb; exact boxed (j := 7) rfl (Below.refl _ _)
  go_enter Try.func30, Try.ntmps30
  go_wp2
  rw [← hwb]
  clear hwb
  go_loopw [7] (fun iv wr => ∃ k : Nat, k ≤ rl.length ∧ iv = .int .i64 k ∧ Hid (∀ q ∈ rl.take k, (decide (q.kind = 1) && decide (q.bind = x)) = false) ∧ Hid (wr = wb)) (fun iv _ => rl.length - (intOf iv).toNat)
  case atStart => exact ⟨0, by simp, rfl, Lib.hid (by simp), Lib.hid rfl⟩
  case round =>
    obtain ⟨k, hk, rfl, HN, HW⟩ := hrel
    obtain rfl := HW.out
    obtain ⟨wk, rfl⟩ : ∃ x : World, x = wr := ⟨_, rfl⟩
    by_cases hlt : k < rl.length
    · obtain ⟨b', off, rfl, c0, -, -, c3, c4, -⟩ := lits_at (hlits.keep (keeps_below b0)) (List.getElem?_eq_getElem hlt)
      have hyes : (decide (rl[k].kind = 1) && decide (rl[k].bind = x)) = true → Hid (R = true) := fun e => Lib.hid (by rw [← HR.out]; exact List.any_eq_true.2 ⟨rl[k], List.getElem_mem hlt, e⟩)
      have hno : (decide (rl[k].kind = 1) && decide (rl[k].bind = x)) = false → Hid (∀ q ∈ rl.take (k + 1), (decide (q.kind = 1) && decide (q.bind = x)) = false) := fun e => Lib.hid (take_ext hlt HN.out e)
      have hq := hok rl[k] (List.getElem_mem hlt)
      obtain ⟨pa, pc, hqa, -⟩ := hq
      rw [hqa] at c3
      generalize rl[k] = q at *
      by_cases h1 : q.kind = 1
      · by_cases h2 : q.bind = x
        · have HF := hyes (by simp [h1, h2])
          have hs := nm_eq h2
          rw [h1] at c0
          clear hyes hno h1 h2
          go_wp2
          go_ret
          exact ⟨ret_bool HF.out.symm, b0⟩
        · have HN' := hno (by simp [h2])
          have hs := nm_ne h2
          rw [h1] at c0
          clear hyes hno h1 h2
          go_wp2
          go_loopw [8] (fun iv wr => iv = .int .i64 0 ∧ Hid (wr = wk)) (fun _ _ => 0)
          case atStart => exact ⟨rfl, Lib.hid rfl⟩
          case round =>
            obtain ⟨rfl, HW2⟩ := hrel
            obtain rfl := HW2.out
            go_wp2
            all_goals
              go_roundw
              case rel => exact ⟨k + 1, by omega, by go_num, HN', by first | exact Lib.hid rfl | exact Lib.hid trivial⟩
              case measure => simp [intOf]; omega
      · have HN' := hno (by simp [h1])
        have hs := ne_beq h1
        clear hyes hno h1
        go_wp2
        go_loopw [8] (fun iv wr => iv = .int .i64 0 ∧ Hid (wr = wk)) (fun _ _ => 0)
        case atStart => exact ⟨rfl, Lib.hid rfl⟩
        case round =>
          obtain ⟨rfl, HW2⟩ := hrel
          obtain rfl := HW2.out
          go_wp2
          all_goals
            go_roundw
            case rel => exact ⟨k + 1, by omega, by go_num, HN', by first | exact Lib.hid rfl | exact Lib.hid trivial⟩
            case measure => simp [intOf]; omega
    · have he : k = rl.length := by omega
      have HF := Lib.hid (show R = false by
        rw [← HR.out]
        have hn := HN.out
        rw [he, List.take_length] at hn
        exact List.any_eq_false.2 (fun q hq => by rw [hn q hq]; simp))
      clear he
      go_wp2
      go_ret
      exact ⟨ret_bool HF.out.symm, b0⟩
set_option maxHeartbeats 2000000 in
set_option maxRecDepth 100000 in
theorem occursO_any (r : Rl) (x : Nm) (w : World) (h : RuleOk w r) :
    Calls Try.prog 30 #[ruleV r, .string x.1, .bool false] w fun e w' => e = .returned (.bool (r.lits.any fun q => q.targs.any fun t => decide (t.var = x))) ∧ Below w.heap.size w w' := by
  obtain ⟨-, ⟨ab, cb, hb, hlits, hmb⟩, hok⟩ := h
  obtain ⟨R, hR⟩ : ∃ R, (r.lits.any fun q => q.targs.any fun t => decide (t.var = x)) = R := ⟨_, rfl⟩
  have HR := Lib.hid hR
  rw [hR]
  clear hR
  obtain ⟨rn, rp, ra, rt, rk, ren, rev, rei, rb, rl, rat⟩ := r
  dsimp only at *
  subst hb
  unfold ruleV
  obtain ⟨wb, hwb⟩ : ∃ x : World, x = w.alloc (.cells #[.string rn.1, .int .i64 rp, ra, .int .i64 rk, .string ren.1, .string rev.1, .int .i64 rei, .slice ab rl.length cb, .int .i64 rat] 27) := ⟨_, rfl⟩
  have b0 : Below w.heap.size w wb := by subst hwb; exact (Below.refl _ _).alloc (Nat.le_refl _) _
  have x7 : wb.cell? ⟨w.heap.size, 7, none⟩ = some (.slice ab rl.length cb) := by subst hwb; exact boxed (j := 7) rfl (Below.refl _ _)
  go_enter Try.func30, Try.ntmps30
  go_wp2
  rw [← hwb]
  clear hwb
  go_loopw [7] (fun iv wr => ∃ k : Nat, k ≤ rl.length ∧ iv = .int .i64 k ∧ Hid (∀ q ∈ rl.take k, (q.targs.any fun t => decide (t.var = x)) = false) ∧ Hid (wr = wb)) (fun iv _ => rl.length - (intOf iv).toNat)
  case atStart => exact ⟨0, by simp, rfl, Lib.hid (by simp), Lib.hid rfl⟩
  case round =>
    obtain ⟨k, hk, rfl, HN, HW⟩ := hrel
    obtain rfl := HW.out
    obtain ⟨wk, rfl⟩ : ∃ x : World, x = wr := ⟨_, rfl⟩
    by_cases hlt : k < rl.length
    · obtain ⟨b', off, rfl, c0, -, -, c3, c4, -⟩ := lits_at (hlits.keep (keeps_below b0)) (List.getElem?_eq_getElem hlt)
      have hyes : (rl[k].targs.any fun t => decide (t.var = x)) = true → Hid (R = true) := fun e => Lib.hid (by rw [← HR.out]; exact List.any_eq_true.2 ⟨rl[k], List.getElem_mem hlt, e⟩)
      have hno : (rl[k].targs.any fun t => decide (t.var = x)) = false → Hid (∀ q ∈ rl.take (k + 1), (q.targs.any fun t => decide (t.var = x)) = false) := fun e => Lib.hid (take_ext hlt HN.out e)
      have hq := hok rl[k] (List.getElem_mem hlt)
      obtain ⟨pa, pc, hqa, hqr, hqm⟩ := hq
      rw [hqa] at c3
      generalize rl[k] = q at *
      clear c0 c4 hqa
      go_wp2
      go_loopw [8] (fun iv wr => ∃ i : Nat, i ≤ q.targs.length ∧ iv = .int .i64 i ∧ Hid (∀ t ∈ q.targs.take i, t.var ≠ x) ∧ Hid (wr = wk)) (fun iv _ => q.targs.length - (intOf iv).toNat)
      case atStart => exact ⟨0, by simp, rfl, Lib.hid (by simp), Lib.hid rfl⟩
      case round =>
        obtain ⟨i, hil, rfl, HT, HW2⟩ := hrel
        obtain rfl := HW2.out
        obtain ⟨wj, rfl⟩ : ∃ x : World, x = wr := ⟨_, rfl⟩
        by_cases hti : i < q.targs.length
        · obtain ⟨bt, ot, rfl, t0, -⟩ := terms_at (hqr.keep (keeps_below b0)) (List.getElem?_eq_getElem hti)
          have hy2 : q.targs[i].var = x → Hid (R = true) := fun e => hyes (List.any_eq_true.2 ⟨q.targs[i], List.getElem_mem hti, by simpa using e⟩)
          have hn2 : q.targs[i].var ≠ x → Hid (∀ t ∈ q.targs.take (i + 1), t.var ≠ x) := fun e => Lib.hid (take_ext (p := fun t => t.var ≠ x) hti HT.out e)
          generalize q.targs[i] = t at *
          by_cases he : t.var = x
          · have HF := hy2 he
            have hs := nm_eq he
            clear he hy2 hn2 hyes hno
            go_wp2
            go_ret
            exact ⟨ret_bool HF.out.symm, b0⟩
          · have HT' := hn2 he
            have hs := nm_ne he
            clear he hy2 hn2
            go_wp2
            go_roundw
            case rel => exact ⟨i + 1, by omega, by go_num, HT', by first | exact Lib.hid rfl | exact Lib.hid trivial⟩
            case measure => simp [intOf]; omega
        · have he : i = q.targs.length := by omega
          have HN' := hno (List.any_eq_false.2 (fun t ht => by
            have hh := HT.out
            rw [he, List.take_length] at hh
            simpa using hh t ht))
          clear he hyes hno
          go_wp2
          go_roundw
          case rel => exact ⟨k + 1, by omega, by go_num, HN', by first | exact Lib.hid rfl | exact Lib.hid trivial⟩
          case measure => simp [intOf]; omega
    · have he : k = rl.length := by omega
      have HF := Lib.hid (show R = false by
        rw [← HR.out]
        have hn := HN.out
        rw [he, List.take_length] at hn
        exact List.any_eq_false.2 (fun q hq => by rw [hn q hq]; simp))
      clear he
      go_wp2
      go_ret
      exact ⟨ret_bool HF.out.symm, b0⟩
end Go.Proofs.Ytnibgmmoebmnlaa
