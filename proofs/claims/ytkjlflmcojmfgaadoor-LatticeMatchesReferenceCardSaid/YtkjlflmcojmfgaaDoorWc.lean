/- The walk of the program's name check. -/
import Derived.Test.YtkjlflmcojmfgaaDoorWb
import Derived.Lib.ConvBytes
namespace Go.Proofs.YtkjlflmcojmfgaaDoor
open Go.RowKit
theorem below_bytes (w : World) (s : ByteArray) : Below w.heap.size w (Lib.bytesWorld w 5 s) :=
  ⟨rfl, rfl, rfl, by rw [Lib.bytesWorld_size]; omega, fun k hk => Lib.bytesWorld_at_old w 5 s k hk⟩
set_option maxHeartbeats 2000000 in
theorem name_any (x : Nm) (w : World) (hK : KeysAt w 0) : Calls Tryd.prog 40 #[.string x.1] w fun e w' => e = .returned (.bool (nameOk x)) ∧ Below w.heap.size w w' := by
  obtain ⟨ka, kc, hk1, hk2⟩ := hK
  have m1 : x.1.size ≤ 9223372036854775807 := by have := x.2; unfold maxLen at this; omega
  have hsz : x.1.data.toList.length = x.1.size := by simp
  by_cases h0 : x.1.size = 0
  · have hnil : x.1.data.toList = [] := List.eq_nil_of_length_eq_zero (by omega)
    have HF := Lib.hid (show nameOk x = false by unfold nameOk headOk; rw [hnil]; rfl)
    have q0 : x.1.toList.isEmpty = true := by rw [Lib.toList_data, hnil]; rfl
    clear h0 hsz hnil
    go_enter Tryd.func40, Tryd.ntmps40
    go_wp2
    go_ret
    exact ⟨ret_bool HF.out.symm, Below.refl _ _⟩
  have q1 : 0 < x.1.size := by omega
  have q0 : x.1.toList.isEmpty = false := by
    rw [Lib.toList_data]
    cases h : x.1.data.toList with
    | nil => rw [h] at hsz; simp at hsz; omega
    | cons => rfl
  by_cases h16 : 16 < x.1.size
  · have HF := Lib.hid (show nameOk x = false by unfold nameOk headOk; rw [decide_eq_false (by omega)]; rfl)
    have q2 : decide (16 < (x.1.size : Int)) = true := decide_eq_true (by omega)
    clear hsz
    go_enter Tryd.func40, Tryd.ntmps40
    go_wp2
    go_ret
    exact ⟨ret_bool HF.out.symm, Below.refl _ _⟩
  have q2 : decide (16 < (x.1.size : Int)) = false := decide_eq_false (by omega)
  have hfo : firstOk x.1.data.toList = (decide (97 ≤ (x.1[0]'q1).toNat) && decide ((x.1[0]'q1).toNat ≤ 122)) := first_at q1
  have HSZ := Lib.hid hsz
  clear hsz
  by_cases h97 : ((x.1[0]'q1).toNat : Int) < 97
  · have HF := Lib.hid (show nameOk x = false by unfold nameOk headOk; rw [hfo, decide_eq_false (by omega : ¬ 97 ≤ (x.1[0]'q1).toNat)]; simp)
    have q3 : decide (((x.1[0]'q1).toNat : Int) < 97) = true := decide_eq_true h97
    clear hfo
    go_enter Tryd.func40, Tryd.ntmps40
    go_wp2
    go_ret
    exact ⟨ret_bool HF.out.symm, Below.refl _ _⟩
  have q3 : decide (((x.1[0]'q1).toNat : Int) < 97) = false := decide_eq_false h97
  by_cases h122 : 122 < ((x.1[0]'q1).toNat : Int)
  · have HF := Lib.hid (show nameOk x = false by unfold nameOk headOk; rw [hfo, decide_eq_false (by omega : ¬ (x.1[0]'q1).toNat ≤ 122)]; simp)
    have q4 : decide (122 < ((x.1[0]'q1).toNat : Int)) = true := decide_eq_true h122
    clear hfo
    go_enter Tryd.func40, Tryd.ntmps40
    go_wp2
    go_ret
    exact ⟨ret_bool HF.out.symm, Below.refl _ _⟩
  have q4 : decide (122 < ((x.1[0]'q1).toNat : Int)) = false := decide_eq_false h122
  have HH := Lib.hid (show headOk x.1.data.toList = true by unfold headOk; rw [hfo, decide_eq_true (by omega : 97 ≤ (x.1[0]'q1).toNat), decide_eq_true (by omega : (x.1[0]'q1).toNat ≤ 122), decide_eq_true (by have := HSZ.out; omega : x.1.data.toList.length ≤ 16)]; rfl)
  clear hfo
  by_cases hkw : x ∈ keyNames
  · have HF := Lib.hid (show nameOk x = false by
      unfold nameOk; rw [decide_eq_false (fun h => h (mem_keys.1 hkw))]; simp)
    have HC := Lib.hid (decide_eq_true hkw)
    clear hkw
    go_enter Tryd.func40, Tryd.ntmps40
    go_wp2_with fail
    refine (Contains_any _ keyNames x _ hk2).mono ?_
    rintro e w' ⟨rfl, rfl⟩
    rw [HC.out]
    go_wp2
    go_ret
    exact ⟨ret_bool HF.out.symm, Below.refl _ _⟩
  · have HNK := Lib.hid (show decide (x.1.data.toList ∉ keyBytes) = true from decide_eq_true (p := x.1.data.toList ∉ keyBytes) fun h => hkw (mem_keys.2 h))
    have HC := Lib.hid (decide_eq_false hkw)
    clear hkw
    go_enter Tryd.func40, Tryd.ntmps40
    go_wp2_with fail
    refine (Contains_any _ keyNames x _ hk2).mono ?_
    rintro e w' ⟨rfl, rfl⟩
    rw [HC.out]
    have hcv := fun w => Lib.run_convert_string_bytes (P := Tryd.prog) w 9 40 5 x.1 Tryd.underlying9 Tryd.underlying40 Tryd.underlying5
    have bB := below_bytes w x.1
    have HCELL : Hid (∀ j (hj : j < x.1.size), (Lib.bytesWorld w 5 x.1).cell? ⟨w.heap.size, j, none⟩ = some (.int .u8 ((x.1[j]).toNat : Int))) := Lib.hid fun j hj => by
      rw [Lib.bytesWorld_cell w 5 x.1 j hj]
      have : x.1.data.toList.getD j 0 = x.1[j] := by
        rw [List.getD_eq_getElem?_getD, List.getElem?_eq_getElem (by simpa using hj)]; rfl
      rw [this]
    go_wp2
    clear hcv
    generalize hcap : grownCap w x.1.size 0 5 = cap at *
    have hcap' : x.1.size ≤ cap := by rw [← hcap]; exact grownCap_ge w x.1.size 0 5
    clear hcap
    generalize Lib.bytesWorld w 5 x.1 = wB at *
    go_loop [30, 4, 34] (fun i _ _ => ∃ k : Nat, k ≤ x.1.size ∧ i = .int .i64 k ∧ Hid ((x.1.data.toList.take k).all isLetter = true)) (fun i _ _ => x.1.size - (intOf i).toNat)
    case atStart => exact ⟨0, Nat.zero_le _, rfl, Lib.hid rfl⟩
    case round =>
      obtain ⟨k, hk, rfl, hl⟩ := hrel
      by_cases hlt : k < x.1.size
      · have hd : decide (k < x.1.size) = true := decide_eq_true hlt
        have hI : (k : Int) < (x.1.size : Int) := by omega
        have hlt2 : k < x.1.data.toList.length := by have := HSZ.out; omega
        have e1 : x.1.data.toList[k] = x.1[k] := rfl
        have HT := Lib.hid (letters_take hlt2)
        rw [e1] at HT
        have HB := Lib.hid (fun h => letters_bad hlt2 h)
        rw [e1] at HB
        have hce := HCELL.out k hlt
        generalize hcc : x.1[k] = c at *
        clear hcc
        have HL : Hid (isLetter c = ((decide (97 ≤ c.toNat) && decide (c.toNat ≤ 122)) || (decide (65 ≤ c.toNat) && decide (c.toNat ≤ 90)) || (decide (48 ≤ c.toNat) && decide (c.toNat ≤ 57)) || decide (c.toNat = 95))) := Lib.hid rfl
        by_cases h95 : (c.toNat : Int) = 95
        · have q5 : ((c.toNat : Int) == 95) = true := by rw [h95]; rfl
          have h95a : 94 < (c.toNat : Int) := by omega
          have h95b : (c.toNat : Int) < 96 := by omega
          clear h95
          go_wp2
          all_goals first
            | (go_ret
               exact ⟨ret_bool (by
                 have hf : isLetter c = false := by
                   rw [HL.out, Bool.eq_false_iff]; simp; omega
                 unfold nameOk; rw [HB.out hf]; simp), bB⟩)
            | (go_round
               case rel => exact ⟨k + 1, by omega, by go_num, Lib.hid (by rw [HT.out, hl.out, HL.out]; simp; omega)⟩
               case measure => simp [intOf]; omega)
        · have q5 : ((c.toNat : Int) == 95) = false := ne_beq h95
          go_wp2
          all_goals first
            | (go_ret
               exact ⟨ret_bool (by
                 have hf : isLetter c = false := by
                   rw [HL.out, Bool.eq_false_iff]; simp; omega
                 unfold nameOk; rw [HB.out hf]; simp), bB⟩)
            | (go_round
               case rel => exact ⟨k + 1, by omega, by go_num, Lib.hid (by rw [HT.out, hl.out, HL.out]; simp; omega)⟩
               case measure => simp [intOf]; omega)
      · have e : k = x.1.size := by omega
        subst e
        have hd : decide (x.1.size < x.1.size) = false := decide_eq_false hlt
        have HL := Lib.hid (show x.1.data.toList.all isLetter = true by have := hl.out; rwa [List.take_of_length_le (by have := HSZ.out; omega)] at this)
        clear hl
        have HF := Lib.hid (show nameOk x = true by unfold nameOk; rw [HH.out, HL.out, HNK.out]; rfl)
        go_wp2
        go_ret
        exact ⟨ret_bool HF.out.symm, bB⟩
end Go.Proofs.YtkjlflmcojmfgaaDoor
