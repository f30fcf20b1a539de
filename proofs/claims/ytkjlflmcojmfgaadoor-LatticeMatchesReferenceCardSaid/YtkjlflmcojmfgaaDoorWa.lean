/- The walks of Letter, Index, Contains. -/
import Derived.Test.YtkjlflmcojmfgaaDoorMem
import Derived.Test.YtkjlflmcojmfgaaDoorSpec
namespace Go.Proofs.YtkjlflmcojmfgaaDoor
open Go.RowKit
set_option maxHeartbeats 1000000 in
theorem Letter_any (c : UInt8) (w : World) : Calls Tryd.prog 46 #[.int .u8 (c.toNat : Int)] w fun e w' => e = .returned (.bool (isLetter c)) ∧ w = w' := by
  have HL : Hid (isLetter c = ((decide (97 ≤ c.toNat) && decide (c.toNat ≤ 122)) || (decide (65 ≤ c.toNat) && decide (c.toNat ≤ 90)) || (decide (48 ≤ c.toNat) && decide (c.toNat ≤ 57)) || decide (c.toNat = 95))) := Lib.hid rfl
  generalize c.toNat = n at *
  go_enter Tryd.func46, Tryd.ntmps46
  go_wp2
  all_goals
    go_ret
    refine ⟨ret_bool ?_, rfl⟩
    rw [HL.out, Bool.eq_iff_iff]
    simp
    omega
theorem nm_eq {x y : Nm} (h : x = y) : (x.1.toList == y.1.toList) = true := by subst h; exact beq_self_eq_true _
theorem nm_ne {x y : Nm} (h : x ≠ y) : (x.1.toList == y.1.toList) = false := by
  rw [Lib.toList_data, Lib.toList_data]
  exact beq_eq_false_iff_ne.2 fun e => h (Nm.bytes_inj e)
set_option maxHeartbeats 1000000 in
theorem Index_any (v : Value) (L : List Nm) (x : Nm) (w : World) (h : IsNames w v L) : Calls Tryd.prog 45 #[v, .string x.1] w fun e w' => (∃ i : Int, e = .returned (.int .i64 i) ∧ (0 ≤ i ↔ x ∈ L)) ∧ w = w' := by
  have h0 := h
  obtain ⟨a, c, rfl, m1, m2, m3⟩ := IsRows.shape h
  go_enter Tryd.func45, Tryd.ntmps45
  go_wp2
  go_loop [8, 5] (fun i _ => ∃ k : Nat, k ≤ L.length ∧ i = .int .i64 k ∧ ∀ j, j < k → L[j]? ≠ some x) (fun i _ => L.length - (intOf i).toNat)
  case atStart => exact ⟨0, Nat.zero_le _, rfl, fun j hj => by omega⟩
  case round =>
    obtain ⟨k, hk, rfl, hn⟩ := hrel
    by_cases hlt : k < L.length
    · obtain ⟨b, off, rfl, hc⟩ := h0.at_ (List.getElem?_eq_getElem hlt)
      have hI : (k : Int) < (L.length : Int) := by omega
      by_cases he : L[k] = x
      · have hq := nm_eq he.symm
        have HM := Lib.hid (show x ∈ L by rw [← he]; exact List.getElem_mem hlt)
        have hd : decide (k < L.length) = true := decide_eq_true hlt
        clear he hn
        go_wp2
        go_ret
        exact ⟨⟨_, rfl, ⟨fun _ => HM.out, fun _ => by omega⟩⟩, rfl⟩
      · have hq := nm_ne (fun e => he e.symm : ¬ x = L[k])
        have hd : decide (k < L.length) = true := decide_eq_true hlt
        have HN := Lib.hid (show ∀ j, j < k + 1 → L[j]? ≠ some x from fun j hj e => by
          rcases Nat.lt_or_ge j k with h | h
          · exact hn j h e
          · have : j = k := by omega
            subst this
            rw [List.getElem?_eq_getElem hlt] at e
            exact he (Option.some.inj e))
        clear he hn
        go_wp2
        go_round
        case rel => exact ⟨k + 1, by omega, by go_num, HN.out⟩
        case measure => simp [intOf]; omega
    · have hd : decide (k < L.length) = false := decide_eq_false hlt
      have HN := Lib.hid (show x ∉ L from fun hx => by
        obtain ⟨j, hj, e⟩ := List.getElem_of_mem hx
        exact hn j (by omega) (by rw [List.getElem?_eq_getElem hj, e]))
      clear hn
      go_wp2
      go_ret
      exact ⟨⟨_, rfl, ⟨fun h => by omega, fun h => absurd h HN.out⟩⟩, rfl⟩
theorem Contains_any (v : Value) (L : List Nm) (x : Nm) (w : World) (h : IsNames w v L) : Calls Tryd.prog 41 #[v, .string x.1] w fun e w' => e = .returned (.bool (decide (x ∈ L))) ∧ w = w' := by
  go_enter Tryd.func41, Tryd.ntmps41
  go_wp2_with fail
  refine (Index_any v L x w h).mono ?_
  rintro e w' ⟨⟨i, rfl, hi⟩, rfl⟩
  have HI := Lib.hid hi
  clear hi
  go_wp2
  go_ret
  refine ⟨ret_bool ?_, rfl⟩
  rw [Bool.eq_iff_iff, decide_eq_true_eq, decide_eq_true_eq]
  exact HI.out
end Go.Proofs.YtkjlflmcojmfgaaDoor
