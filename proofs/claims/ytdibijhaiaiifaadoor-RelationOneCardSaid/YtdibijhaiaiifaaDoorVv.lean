/- The walk of the given program's Valid of a value. -/
import Derived.Test.YtdibijhaiaiifaaDoorSym
namespace Go.Proofs.YtdibijhaiaiifaaDoor
open Go.RowKit
theorem valid_int {x : Vl} (h : x.t = 1) : validV x = (decide (0 ≤ x.n) && decide (x.n ≤ 9999) && decide (x.s = [])) := by unfold validV; rw [if_pos h]
theorem valid_sym {x : Vl} (h : x.t = 2) : validV x = (decide (x.n = 0) && symB x.s) := by unfold validV; rw [if_neg (by omega), decide_eq_true h, Bool.true_and]
theorem valid_no {x : Vl} (h : ¬ x.t = 1) (k : ¬ x.t = 2) : validV x = false := by unfold validV; rw [if_neg h, decide_eq_false k]; rfl
set_option maxHeartbeats 1000000 in
theorem validV_any (x : Vl) (w : World) (hT : Tab w) : Calls Tryd.prog 74 #[valV x] w fun e w' => e = .returned (.bool (validV x)) ∧ Below w.heap.size w w' := by
  unfold valV
  have BA := below_new w (.cells #[.int .i64 x.t, .int .i64 x.n, strV x.s] 58)
  have X := Cel.new w 58 [.int .i64 x.t, .int .i64 x.n, strV x.s]
  obtain ⟨v, hv⟩ : ∃ v, validV x = v := ⟨_, rfl⟩
  have HI := Lib.hid (fun h => (valid_int (x := x) h).symm.trans hv)
  have HS := Lib.hid (fun h => (valid_sym (x := x) h).symm.trans hv)
  have HN := Lib.hid (fun h k => (valid_no (x := x) h k).symm.trans hv)
  rw [hv]
  clear hv
  obtain ⟨t, n, s, ok⟩ := x
  dsimp only at *
  go_enter Tryd.func74, Tryd.ntmps74
  go_upto_region 1 with fail
  obtain ⟨wA, hwA⟩ : ∃ z, w.alloc (.cells #[.int .i64 t, .int .i64 n, strV s] 58) = z := ⟨_, rfl⟩
  have X' : Cel wA w.heap.size 58 [.int .i64 t, .int .i64 n, strV s] := by rw [← hwA]; exact X
  rw [hwA] at BA
  rw [hwA]
  clear hwA X
  have q0 := X'.at_ (j := 0) rfl
  have q1 := X'.at_ (j := 1) rfl
  have q2 := X'.at_ (j := 2) rfl
  by_cases h1 : t = 1
  · subst h1
    have HI2 := Lib.hid (HI.out rfl)
    clear HI HS HN
    by_cases hn0 : 0 ≤ n
    · have z0 : decide (0 ≤ n) = true := decide_eq_true hn0
      by_cases hn9 : n ≤ 9999
      · have z9 : decide (n ≤ 9999) = true := decide_eq_true hn9
        cases s with
        | nil =>
          have RES := Lib.hid (show v = true by rw [← HI2.out, z0, z9]; rfl)
          go_wp2
          go_ret
          exact ⟨by rw [RES.out]; rfl, BA⟩
        | cons c r =>
          have RES := Lib.hid (show v = false by rw [← HI2.out]; simp)
          go_wp2
          go_ret
          exact ⟨by rw [RES.out]; rfl, BA⟩
      · have z9 : decide (n ≤ 9999) = false := decide_eq_false hn9
        have RES := Lib.hid (show v = false by rw [← HI2.out, z9]; simp)
        go_wp2
        go_ret
        exact ⟨by rw [RES.out]; rfl, BA⟩
    · have z0 : decide (0 ≤ n) = false := decide_eq_false hn0
      have RES := Lib.hid (show v = false by rw [← HI2.out, z0]; simp)
      go_wp2
      go_ret
      exact ⟨by rw [RES.out]; rfl, BA⟩
  · have e1 : (t == 1) = false := by rw [beq_eq_false_iff_ne]; exact h1
    by_cases h2 : t = 2
    · subst h2
      have HS2 := Lib.hid (HS.out rfl)
      clear HI HS HN h1
      by_cases hn0 : n = 0
      · subst hn0
        go_wp2_with fail
        refine (symbol_any s ok _ (hT.keep BA)).mono ?_
        rintro e w2 ⟨rfl, B2⟩
        have RES := Lib.hid (show symB s = v by rw [← HS2.out]; simp)
        rw [RES.out]
        go_wp2
        go_ret
        exact ⟨rfl, below_trans BA B2⟩
      · have z0 : (n == 0) = false := by rw [beq_eq_false_iff_ne]; exact hn0
        have RES := Lib.hid (show v = false by rw [← HS2.out, decide_eq_false hn0]; rfl)
        clear hn0
        go_wp2
        go_ret
        exact ⟨by rw [RES.out]; rfl, BA⟩
    · have e2 : (t == 2) = false := by rw [beq_eq_false_iff_ne]; exact h2
      have RES := Lib.hid (HN.out h1 h2)
      clear h1 h2 HI HS HN
      go_wp2
      go_ret
      exact ⟨by rw [← RES.out]; rfl, BA⟩
end Go.Proofs.YtdibijhaiaiifaaDoor
