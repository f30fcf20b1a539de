/- The walk of Small. -/
import Derived.Test.YtnibgmmoebmnlaaWf
namespace Go.Proofs.Ytnibgmmoebmnlaa
open Go.RowKit
def small (r : Rl) : Bool := decide (r.lits.length ≤ 12) && decide (r.targs.length ≤ 6) && r.lits.all fun l => decide (l.targs.length ≤ 6)
theorem small_parts {r : Rl} (h : small r = true) : r.lits.length ≤ 12 ∧ r.targs.length ≤ 6 ∧ ∀ l ∈ r.lits, l.targs.length ≤ 6 := by
  unfold small at h
  simp at h
  exact ⟨h.1.1, h.1.2, h.2⟩
/-- The box of a rule's argument. -/
def ruleBox (w : World) (r : Rl) : World := w.alloc (.cells #[.string r.name.1, .int .i64 r.pred, r.args, .int .i64 r.ekind, .string r.ename.1, .string r.evar.1, .int .i64 r.eindex, r.body, .int .i64 r.at_] 27)
theorem Small_any (r : Rl) (w : World) (h : RuleOk w r) :
    Calls Try.prog 11 #[ruleV r] w fun e w' => e = .returned (.bool (small r)) ∧ Below w.heap.size w w' := by
  obtain ⟨⟨aa, ca, ha, -, hma⟩, ⟨ab, cb, hb, hlits, hmb⟩, hok⟩ := h
  obtain ⟨rn, rp, ra, rt, rk, ren, rev, rei, rb, rl, rat⟩ := r
  dsimp only at *
  subst ha hb
  unfold ruleV
  have b0 : Below w.heap.size w (w.alloc (.cells #[.string rn.1, .int .i64 rp, .slice aa rt.length ca, .int .i64 rk, .string ren.1, .string rev.1, .int .i64 rei, .slice ab rl.length cb, .int .i64 rat] 27)) := (Below.refl _ _).alloc (Nat.le_refl _) _
  by_cases h1 : rl.length ≤ 12
  case neg =>
    have HR := Lib.hid (show small ⟨rn, rp, .slice aa rt.length ca, rt, rk, ren, rev, rei, .slice ab rl.length cb, rl, rat⟩ = false by simp [small]; intro; omega)
    go_enter Try.func11, Try.ntmps11
    go_wp2
    go_ret
    exact ⟨ret_bool HR.out.symm, b0⟩
  by_cases h2 : rt.length ≤ 6
  case neg =>
    have HR := Lib.hid (show small ⟨rn, rp, .slice aa rt.length ca, rt, rk, ren, rev, rei, .slice ab rl.length cb, rl, rat⟩ = false by simp [small]; intro; omega)
    go_enter Try.func11, Try.ntmps11
    go_wp2
    go_ret
    exact ⟨ret_bool HR.out.symm, b0⟩
  have HR := Lib.hid (show small ⟨rn, rp, .slice aa rt.length ca, rt, rk, ren, rev, rei, .slice ab rl.length cb, rl, rat⟩ = rl.all (fun l => decide (l.targs.length ≤ 6)) by simp [small, h1, h2])
  go_enter Try.func11, Try.ntmps11
  go_wp2
  go_loopw [3] (fun i wr => ∃ k : Nat, k ≤ rl.length ∧ i = .int .i64 k ∧ (∀ y ∈ rl.take k, y.targs.length ≤ 6) ∧ wr = w.alloc (.cells #[.string rn.1, .int .i64 rp, .slice aa rt.length ca, .int .i64 rk, .string ren.1, .string rev.1, .int .i64 rei, .slice ab rl.length cb, .int .i64 rat] 27)) (fun i _ => rl.length - (intOf i).toNat)
  case atStart => exact ⟨0, Nat.zero_le _, rfl, by simp, rfl⟩
  case round =>
    obtain ⟨k, hk, rfl, hno, hwr⟩ := hrel
    have HW := Lib.hid hwr
    have x7 : wr.cell? ⟨w.heap.size, 7, none⟩ = some (.slice ab rl.length cb) := by rw [hwr]; exact boxed (j := 7) rfl (Below.refl _ _)
    have hb : Below w.heap.size w wr := by rw [hwr]; exact b0
    clear hwr
    by_cases hlt : k < rl.length
    · obtain ⟨b', off, rfl, -, -, -, c3, -⟩ := lits_at (hlits.keep (keeps_below hb)) (List.getElem?_eq_getElem hlt)
      have hno' := take_ext (p := fun y => y.targs.length ≤ 6) hlt hno
      obtain ⟨ap, ac, he, -, hmm⟩ := hok rl[k] (List.getElem_mem hlt)
      have hne : ¬ rl[k].targs.length ≤ 6 → rl.all (fun l => decide (l.targs.length ≤ 6)) = false := fun h => by
        rw [List.all_eq_false]; exact ⟨rl[k], List.getElem_mem hlt, by simpa using h⟩
      rw [he] at c3
      generalize rl[k].targs.length = m at *
      by_cases hm : m ≤ 6
      · have hno' := hno' hm
        clear hne he
        go_wp2
        go_roundw
        case rel => exact ⟨k + 1, by omega, by go_num, hno', HW.out⟩
        case measure => simp [intOf]; omega
      · have HN := Lib.hid (hne hm)
        clear hne hno' he
        go_wp2
        go_ret
        exact ⟨ret_bool (HR.out.trans HN.out).symm, hb⟩
    · have e : k = rl.length := by omega
      subst e
      rw [List.take_length] at hno
      have HC := Lib.hid (show rl.all (fun l => decide (l.targs.length ≤ 6)) = true by rw [List.all_eq_true]; exact fun x hx => by simpa using hno x hx)
      go_wp2
      go_ret
      exact ⟨ret_bool (HR.out.trans HC.out).symm, hb⟩
end Go.Proofs.Ytnibgmmoebmnlaa
