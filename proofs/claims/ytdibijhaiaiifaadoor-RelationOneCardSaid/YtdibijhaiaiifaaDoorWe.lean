/- The walks of the two comparisons of lists. -/
import Derived.Test.YtdibijhaiaiifaaDoorWd
namespace Go.Proofs.YtdibijhaiaiifaaDoor
open Go.RowKit
theorem list_eq_of {a b : List Sp} (h : a.length = b.length) (he : ∀ i, i < a.length → a.getD i (0, 0) = b.getD i (0, 0)) : a = b := by
  apply List.ext_getElem h
  intro i h1 h2
  have := he i h1
  simpa [List.getD_eq_getElem?_getD, List.getElem?_eq_getElem h1, List.getElem?_eq_getElem h2] using this
theorem run_neq_sp (p q p' q' : Int) (w : World) : (binOp .neq 86 (.agg #[.int .i64 p, .int .i64 q]) (.agg #[.int .i64 p', .int .i64 q'])).run Tryd.prog w = .ok (.bool (!(p == p' && q == q'))) w := by
  have hp : Tryd.prog.stoodInHeld 86 = false := by kernel_rfl
  have hf : Tryd.prog.underlying 86 = some (.struct (Tryd.prog.fieldsOf 86)) := by kernel_rfl
  rw [run_neq_struct, run_equalIn_agg w 9999 86 _ _ hf hp]
  simp [go_sem]
  by_cases h : p = p' <;> by_cases h' : q = q' <;> simp [h, h']
theorem run_guard_sp (x y : Operand) (u v : Array Value) (w : World) : (eqGuard .neq 86 x y (.agg u) (.agg v)).run Tryd.prog w = .ok () w := run_eqGuard_agg w .neq 86 x y u v (by kernel_rfl)
theorem neq_yes (p q p' q' : Int) (h : ¬ (p = p' ∧ q = q')) (w : World) : (binOp .neq 86 (.agg #[.int .i64 p, .int .i64 q]) (.agg #[.int .i64 p', .int .i64 q'])).run Tryd.prog w = .ok (.bool true) w := by
  rw [run_neq_sp]; congr 2; simp; omega
theorem neq_no (p q : Int) (w : World) : (binOp .neq 86 (.agg #[.int .i64 p, .int .i64 q]) (.agg #[.int .i64 p, .int .i64 q])).run Tryd.prog w = .ok (.bool false) w := by
  rw [run_neq_sp]; simp
set_option maxHeartbeats 1000000 in
theorem Equal_any (va vb : Value) (a b : List Sp) (w : World) (ha : IsSpans w va a) (hb : IsSpans w vb b) :
    Calls Tryd.prog 119 #[va, vb] w fun e w' => e = .returned (.bool (decide (a = b))) ∧ Below w.heap.size w w' := by
  obtain ⟨aa, ca, rfl, hsa, hma⟩ := ha
  obtain ⟨ab, cb, rfl, hsb, hmb⟩ := hb
  have hg := run_guard_sp
  by_cases hn : a.length = b.length
  · have hne : ((a.length : Int) != (b.length : Int)) = false := by rw [bne_eq_false_iff_eq]; omega
    have HN := Lib.hid hn
    clear hn
    go_enter Tryd.func119, Tryd.ntmps119
    go_wp2
    go_loopw [5, 13] (fun _ i wr => ∃ k : Nat, k ≤ a.length ∧ i = .int .i64 k ∧ (∀ i, i < k → a.getD i (0, 0) = b.getD i (0, 0)) ∧ Below w.heap.size w wr) (fun _ i _ => a.length - (intOf i).toNat)
    case atStart => exact ⟨0, Nat.zero_le _, rfl, by omega, Below.refl _ _⟩
    case round =>
      obtain ⟨k, hk, rfl, he, hbel⟩ := hrel
      have HE := Lib.hid he
      clear he
      by_cases hlt : k < a.length
      · have hlt' : k < b.length := by have := HN.out; omega
        obtain ⟨b1, o1, rfl, hc1⟩ := (hsa.keep hbel).at_ hlt
        obtain ⟨b2, o2, rfl, hc2⟩ := (hsb.keep hbel).at_ hlt'
        obtain ⟨c1, c2⟩ := hc1 k hlt
        obtain ⟨c3, c4⟩ := hc2 k hlt'
        clear hc1 hc2
        obtain ⟨s, hs⟩ : ∃ s, a.getD k (0, 0) = s := ⟨_, rfl⟩
        obtain ⟨t, ht⟩ : ∃ t, b.getD k (0, 0) = t := ⟨_, rfl⟩
        rw [hs] at c1 c2
        rw [ht] at c3 c4
        have HS := Lib.hid hs
        have HT := Lib.hid ht
        clear hs ht
        obtain ⟨p, q⟩ := s
        obtain ⟨p', q'⟩ := t
        by_cases hpq : p = p' ∧ q = q'
        · obtain ⟨rfl, rfl⟩ := hpq
          have hr := neq_no p q
          go_wp2
          go_quiet (fail)
          go_wp2
          go_roundw
          case rel =>
            refine ⟨k + 1, by omega, by go_num, fun i hi => ?_, below_drewN hbel _⟩
            rcases (show i < k ∨ i = k from by omega) with h | h
            · exact HE.out i h
            · rw [h, HS.out, HT.out]
          case measure => simp [intOf]; omega
        · have hr := neq_yes p q p' q' hpq
          have hf := Lib.hid (show decide (a = b) = false from by
            rw [decide_eq_false_iff_not]; rintro rfl
            have e := HS.out.symm.trans HT.out
            exact hpq ⟨congrArg Prod.fst e, congrArg Prod.snd e⟩)
          clear hpq
          go_wp2
          go_quiet (fail)
          go_wp2
          go_ret
          exact ⟨by rw [hf.out]; rfl, below_drewN hbel _⟩
      · have hf := Lib.hid (show decide (a = b) = true from by
          rw [decide_eq_true_iff]; exact list_eq_of HN.out (fun i hi => HE.out i (by omega)))
        go_wp2
        go_ret
        exact ⟨by rw [hf.out]; rfl, hbel⟩
  · have hne : ((a.length : Int) != (b.length : Int)) = true := by rw [bne_iff_ne]; omega
    have hf := Lib.hid (show decide (a = b) = false from by rw [decide_eq_false_iff_not]; rintro rfl; exact hn rfl)
    clear hn
    go_enter Tryd.func119, Tryd.ntmps119
    go_wp2
    go_ret
    exact ⟨by rw [hf.out]; rfl, Below.refl _ _⟩
set_option maxHeartbeats 1000000 in
theorem Same_any (va vb : Value) (a b : List Sp) (w : World) (ha : IsSpans w va a) (hb : IsSpans w vb b) :
    Calls Tryd.prog 21 #[va, vb] w fun e w' => e = .returned (.bool (decide (a = b))) ∧ Below w.heap.size w w' := by
  obtain ⟨aa, ca, rfl, hsa, hma⟩ := ha
  obtain ⟨ab, cb, rfl, hsb, hmb⟩ := hb
  have hg := run_guard_sp
  by_cases hn : a.length = b.length
  · have hne : ((a.length : Int) != (b.length : Int)) = false := by rw [bne_eq_false_iff_eq]; omega
    have HN := Lib.hid hn
    clear hn
    go_enter Tryd.func21, Tryd.ntmps21
    go_wp2
    go_loopw [5] (fun i wr => ∃ k : Nat, k ≤ a.length ∧ i = .int .i64 k ∧ (∀ i, i < k → a.getD i (0, 0) = b.getD i (0, 0)) ∧ Below w.heap.size w wr) (fun i _ => a.length - (intOf i).toNat)
    case atStart => exact ⟨0, Nat.zero_le _, rfl, by omega, Below.refl _ _⟩
    case round =>
      obtain ⟨k, hk, rfl, he, hbel⟩ := hrel
      have HE := Lib.hid he
      clear he
      by_cases hlt : k < a.length
      · have hlt' : k < b.length := by have := HN.out; omega
        obtain ⟨b1, o1, rfl, hc1⟩ := (hsa.keep hbel).at_ hlt
        obtain ⟨b2, o2, rfl, hc2⟩ := (hsb.keep hbel).at_ hlt'
        obtain ⟨c1, c2⟩ := hc1 k hlt
        obtain ⟨c3, c4⟩ := hc2 k hlt'
        clear hc1 hc2
        obtain ⟨s, hs⟩ : ∃ s, a.getD k (0, 0) = s := ⟨_, rfl⟩
        obtain ⟨t, ht⟩ : ∃ t, b.getD k (0, 0) = t := ⟨_, rfl⟩
        rw [hs] at c1 c2
        rw [ht] at c3 c4
        have HS := Lib.hid hs
        have HT := Lib.hid ht
        clear hs ht
        obtain ⟨p, q⟩ := s
        obtain ⟨p', q'⟩ := t
        by_cases hpq : p = p' ∧ q = q'
        · obtain ⟨rfl, rfl⟩ := hpq
          have hr := neq_no p q
          go_wp2
          go_quiet (fail)
          go_wp2
          go_roundw
          case rel =>
            refine ⟨k + 1, by omega, by go_num, fun i hi => ?_, below_drewN hbel _⟩
            rcases (show i < k ∨ i = k from by omega) with h | h
            · exact HE.out i h
            · rw [h, HS.out, HT.out]
          case measure => simp [intOf]; omega
        · have hr := neq_yes p q p' q' hpq
          have hf := Lib.hid (show decide (a = b) = false from by
            rw [decide_eq_false_iff_not]; rintro rfl
            have e := HS.out.symm.trans HT.out
            exact hpq ⟨congrArg Prod.fst e, congrArg Prod.snd e⟩)
          clear hpq
          go_wp2
          go_quiet (fail)
          go_wp2
          go_ret
          exact ⟨by rw [hf.out]; rfl, below_drewN hbel _⟩
      · have hf := Lib.hid (show decide (a = b) = true from by
          rw [decide_eq_true_iff]; exact list_eq_of HN.out (fun i hi => HE.out i (by omega)))
        go_wp2
        go_ret
        exact ⟨by rw [hf.out]; rfl, hbel⟩
  · have hne : ((a.length : Int) != (b.length : Int)) = true := by rw [bne_iff_ne]; omega
    have hf := Lib.hid (show decide (a = b) = false from by rw [decide_eq_false_iff_not]; rintro rfl; exact hn rfl)
    clear hn
    go_enter Tryd.func21, Tryd.ntmps21
    go_wp2
    go_ret
    exact ⟨by rw [hf.out]; rfl, Below.refl _ _⟩
end Go.Proofs.YtdibijhaiaiifaaDoor
