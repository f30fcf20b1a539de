/- The walk of few. -/
import Derived.Test.YtdibijhaiaiifaaDoorRa
namespace Go.Proofs.YtdibijhaiaiifaaDoor
open Go.RowKit
def fewL (xs ys : List RR) (t : Tp) (s : List Sp) : Bool := fewR xs && fewR ys && decide (t.length ≤ 6) && decide (s.length ≤ 20)
set_option maxHeartbeats 4000000 in
theorem few_any (va vb vt vs : Value) (xs ys : List RR) (t : Tp) (s : List Sp) (w : World) (ha : IsRel w va xs) (hb : IsRel w vb ys) (ht : IsVals w vt t) (hs : IsSpans w vs s) :
    Calls Tryd.prog 18 #[va, vb, vt, vs] w fun e w' => e = .returned (.bool (fewL xs ys t s)) ∧ Below w.heap.size w w' := by
  obtain ⟨pt, ct, rfl, -⟩ := ht
  obtain ⟨ps, cs, rfl, -⟩ := hs
  obtain ⟨r, hr⟩ : ∃ r, fewL xs ys t s = r := ⟨_, rfl⟩
  rw [hr]
  unfold fewL at hr
  go_enter Tryd.func18, Tryd.ntmps18
  go_wp2_with fail
  refine (fewR_any _ xs _ ha).mono ?_
  rintro e w1 ⟨rfl, B1⟩
  replace hb := hb.keep B1
  cases hx : fewR xs
  · rw [hx] at hr
    subst hr
    go_wp2
    go_ret
    exact ⟨rfl, B1⟩
  rw [hx] at hr
  clear hx
  go_wp2_with fail
  refine (fewR_any _ ys _ hb).mono ?_
  rintro e w2 ⟨rfl, B2⟩
  replace B1 := below_trans B1 B2
  cases hy : fewR ys
  · rw [hy] at hr
    subst hr
    go_wp2
    go_ret
    exact ⟨rfl, B1⟩
  rw [hy] at hr
  clear hy B2
  have e1 : (decide (t.length ≤ 6)) = decide ((t.length : Int) ≤ 6) := by apply decide_eq_decide.2; omega
  have e2 : (decide (s.length ≤ 20)) = decide ((s.length : Int) ≤ 20) := by apply decide_eq_decide.2; omega
  rw [e1, e2] at hr
  clear e1 e2
  simp only [Bool.true_and] at hr
  by_cases h1 : (t.length : Int) ≤ 6
  · by_cases h2 : (s.length : Int) ≤ 20
    · rw [decide_eq_true h1, decide_eq_true h2] at hr
      subst hr
      go_wp2
      go_ret
      exact ⟨rfl, B1⟩
    · rw [decide_eq_true h1, decide_eq_false h2] at hr
      subst hr
      go_wp2
      go_ret
      refine ⟨?_, B1⟩
      show Ending.returned (.bool (decide _)) = _
      rw [decide_eq_false (by omega)]
      rfl
  · rw [decide_eq_false h1] at hr
    subst hr
    go_wp2
    go_ret
    exact ⟨rfl, B1⟩
end Go.Proofs.YtdibijhaiaiifaaDoor
