/- The walks of the two name checks. -/
import Derived.Test.YtkjlflmcojmfgaaDoorWa
namespace Go.Proofs.YtkjlflmcojmfgaaDoor
open Go.RowKit
def nameOk (x : Nm) : Bool := headOk x.1.data.toList && x.1.data.toList.all isLetter && decide (x.1.data.toList ∉ keyBytes)
theorem letters_take {l : List UInt8} {k : Nat} (h : k < l.length) : (l.take (k + 1)).all isLetter = ((l.take k).all isLetter && isLetter l[k]) := by
  rw [List.take_succ_eq_append_getElem h, List.all_append]; simp
theorem letters_bad {l : List UInt8} {k : Nat} (h : k < l.length) (hb : isLetter l[k] = false) : l.all isLetter = false := by
  rw [List.all_eq_false]
  exact ⟨l[k], List.getElem_mem h, by simp [hb]⟩
theorem first_at {s : ByteArray} (h : 0 < s.size) : firstOk s.data.toList = (decide (97 ≤ s[0].toNat) && decide (s[0].toNat ≤ 122)) := by
  obtain ⟨⟨l⟩⟩ := s
  cases l with
  | nil => simp [ByteArray.size] at h
  | cons c r => rfl
set_option maxHeartbeats 2000000 in
theorem Name_any (x : Nm) (w : World) (hK : KeysAt w 1) : Calls Tryd.prog 43 #[.string x.1] w fun e w' => e = .returned (.bool (nameOk x)) ∧ w = w' := by
  obtain ⟨ka, kc, hk1, hk2⟩ := hK
  obtain ⟨m1, hm2⟩ : x.1.size ≤ 9223372036854775807 ∧ True := ⟨by have := x.2; unfold maxLen at this; omega, trivial⟩
  have hsz : x.1.data.toList.length = x.1.size := by simp
  by_cases h0 : x.1.size = 0
  · have HF := Lib.hid (show nameOk x = false by
      have : x.1.data.toList = [] := List.eq_nil_of_length_eq_zero (by omega)
      unfold nameOk headOk; rw [this]; rfl)
    have q0 : ((x.1.size : Int) == 0) = true := by rw [h0]; rfl
    clear h0 hsz
    go_enter Tryd.func43, Tryd.ntmps43
    go_wp2
    go_ret
    exact ⟨ret_bool HF.out.symm, rfl⟩
  have q0 : ((x.1.size : Int) == 0) = false := by simpa using h0
  have q1 : 0 < x.1.size := by omega
  by_cases h16 : 16 < x.1.size
  · have HF := Lib.hid (show nameOk x = false by unfold nameOk headOk; rw [decide_eq_false (by omega)]; rfl)
    have q2 : decide (16 < (x.1.size : Int)) = true := decide_eq_true (by omega)
    clear hsz
    go_enter Tryd.func43, Tryd.ntmps43
    go_wp2
    go_ret
    exact ⟨ret_bool HF.out.symm, rfl⟩
  have q2 : decide (16 < (x.1.size : Int)) = false := decide_eq_false (by omega)
  have hfo : firstOk x.1.data.toList = (decide (97 ≤ (x.1[0]'q1).toNat) && decide ((x.1[0]'q1).toNat ≤ 122)) := first_at q1
  have HSZ := Lib.hid hsz
  clear hsz
  by_cases h97 : ((x.1[0]'q1).toNat : Int) < 97
  · have HF := Lib.hid (show nameOk x = false by unfold nameOk headOk; rw [hfo, decide_eq_false (by omega : ¬ 97 ≤ (x.1[0]'q1).toNat)]; simp)
    have q3 : decide (((x.1[0]'q1).toNat : Int) < 97) = true := decide_eq_true h97
    clear hfo
    go_enter Tryd.func43, Tryd.ntmps43
    go_wp2
    go_ret
    exact ⟨ret_bool HF.out.symm, rfl⟩
  have q3 : decide (((x.1[0]'q1).toNat : Int) < 97) = false := decide_eq_false h97
  by_cases h122 : 122 < ((x.1[0]'q1).toNat : Int)
  · have HF := Lib.hid (show nameOk x = false by unfold nameOk headOk; rw [hfo, decide_eq_false (by omega : ¬ (x.1[0]'q1).toNat ≤ 122)]; simp)
    have q4 : decide (122 < ((x.1[0]'q1).toNat : Int)) = true := decide_eq_true h122
    clear hfo
    go_enter Tryd.func43, Tryd.ntmps43
    go_wp2
    go_ret
    exact ⟨ret_bool HF.out.symm, rfl⟩
  have q4 : decide (122 < ((x.1[0]'q1).toNat : Int)) = false := decide_eq_false h122
  have HH := Lib.hid (show headOk x.1.data.toList = true by unfold headOk; rw [hfo, decide_eq_true (by omega : 97 ≤ (x.1[0]'q1).toNat), decide_eq_true (by omega : (x.1[0]'q1).toNat ≤ 122), decide_eq_true (by have := HSZ.out; omega : x.1.data.toList.length ≤ 16)]; rfl)
  clear hfo
  go_enter Tryd.func43, Tryd.ntmps43
  go_wp2
  go_loop [3] (fun i => ∃ k : Nat, k ≤ x.1.size ∧ i = .int .i64 k ∧ Hid ((x.1.data.toList.take k).all isLetter = true)) (fun i => x.1.size - (intOf i).toNat)
  case atStart => exact ⟨0, Nat.zero_le _, rfl, Lib.hid rfl⟩
  case round =>
    obtain ⟨k, hk, rfl, hl⟩ := hrel
    by_cases hlt : k < x.1.size
    · have hd : decide (k < x.1.size) = true := decide_eq_true hlt
      have hlt2 : k < x.1.data.toList.length := by have := HSZ.out; omega
      have e1 : x.1.data.toList[k] = x.1[k] := rfl
      have HT := Lib.hid (letters_take hlt2)
      rw [e1] at HT
      have HB := Lib.hid (fun h => letters_bad hlt2 h)
      rw [e1] at HB
      cases hc : isLetter x.1[k]
      · have HF := Lib.hid (show nameOk x = false by unfold nameOk; rw [HB.out hc]; simp)
        have HC := Lib.hid hc
        clear hc
        go_wp2_with fail
        refine (Letter_any _ _).mono ?_
        rintro e w' ⟨rfl, rfl⟩
        rw [HC.out]
        go_wp2
        go_ret
        exact ⟨ret_bool HF.out.symm, rfl⟩
      · have HF := Lib.hid (show (x.1.data.toList.take (k + 1)).all isLetter = true by rw [HT.out, hl.out, hc]; rfl)
        have HC := Lib.hid hc
        clear hc
        go_wp2_with fail
        refine (Letter_any _ _).mono ?_
        rintro e w' ⟨rfl, rfl⟩
        rw [HC.out]
        go_wp2
        go_round
        case rel => exact ⟨k + 1, by omega, by go_num, HF⟩
        case measure => simp [intOf]; omega
    · have e : k = x.1.size := by omega
      subst e
      have hd : decide (x.1.size < x.1.size) = false := decide_eq_false hlt
      have HL := Lib.hid (show x.1.data.toList.all isLetter = true by have := hl.out; rwa [List.take_of_length_le (by have := HSZ.out; omega)] at this)
      clear hl
      go_wp2
      go_loop [4] (fun i => ∃ k : Nat, k ≤ 10 ∧ i = .int .i64 k ∧ Hid (∀ j, j < k → keyNames[j]? ≠ some x)) (fun i => 10 - (intOf i).toNat)
      case atStart => exact ⟨0, Nat.zero_le _, rfl, Lib.hid fun j hj => by omega⟩
      case round =>
        obtain ⟨k, hk, rfl, hn⟩ := hrel
        by_cases hlt : k < 10
        · have hlk : k < keyNames.length := by simpa [keyNames] using hlt
          have hd : decide ((k : Int) < 10) = true := decide_eq_true (by omega)
          have hI : (k : Int) < 10 := by omega
          obtain ⟨b, off, rfl, hc⟩ := hk2.at_ (List.getElem?_eq_getElem hlk)
          by_cases he : keyNames[k] = x
          · have hq := nm_eq he
            have HF := Lib.hid (show nameOk x = false by
              have : x ∈ keyNames := by rw [← he]; exact List.getElem_mem hlk
              unfold nameOk; rw [decide_eq_false (fun h => h (mem_keys.1 this))]; simp)
            clear he
            go_wp2
            go_ret
            exact ⟨ret_bool HF.out.symm, rfl⟩
          · have hq := nm_ne he
            have HN := Lib.hid (show ∀ j, j < k + 1 → keyNames[j]? ≠ some x from fun j hj e => by
              rcases Nat.lt_or_ge j k with h | h
              · exact hn.out j h e
              · have : j = k := by omega
                subst this
                rw [List.getElem?_eq_getElem hlk] at e
                exact he (Option.some.inj e))
            clear he
            go_wp2
            go_round
            case rel => exact ⟨k + 1, by omega, by go_num, HN⟩
            case measure => simp [intOf]; omega
        · have hd : decide ((k : Int) < 10) = false := decide_eq_false (by omega)
          have HF := Lib.hid (show nameOk x = true by
            have : x ∉ keyNames := fun hx => by
              obtain ⟨j, hj, e⟩ := List.getElem_of_mem hx
              exact hn.out j (by have : keyNames.length = 10 := rfl; omega) (by rw [List.getElem?_eq_getElem hj, e])
            unfold nameOk; rw [HH.out, HL.out, decide_eq_true (p := x.1.data.toList ∉ keyBytes) (fun h => this (mem_keys.2 h))]; rfl)
          go_wp2
          go_ret
          exact ⟨ret_bool HF.out.symm, rfl⟩
end Go.Proofs.YtkjlflmcojmfgaaDoor
