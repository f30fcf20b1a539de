/- The walks of Small, Ints, Irreducible. -/
import Derived.Test.YtkjlflmcojmfgaaDoorApp
namespace Go.Proofs.YtkjlflmcojmfgaaDoor
open Go.RowKit
def smallL (L : Ltc) : Bool := decide (L.name.1.size ≤ 100) && decide (L.elems.length ≤ 20) && decide (L.covers.length ≤ 200) && L.elems.all fun x => decide (x.1.size ≤ 100)
set_option maxHeartbeats 4000000 in
set_option maxRecDepth 100000 in
theorem Small_any (v : Value) (L : Ltc) (w : World) (h : IsLtc w v L) : Calls Tryd.prog 11 #[v] w fun e w' => e = .returned (.bool (smallL L)) ∧ Below w.heap.size w w' := by
  have hel := (h.shape)
  obtain ⟨ea, ec, ca, cc, rfl, he, -, m1, m2, m3⟩ := hel
  have g0 := heap_alloc_new w (.cells #[.string L.name.1, .slice ea L.elems.length ec, .slice ca L.covers.length cc, .int .i64 L.at_] 25)
  have b0 := below_new w (.cells #[.string L.name.1, .slice ea L.elems.length ec, .slice ca L.covers.length cc, .int .i64 L.at_] 25)
  obtain ⟨wb, hwb⟩ : ∃ x : World, x = w.alloc (.cells #[.string L.name.1, .slice ea L.elems.length ec, .slice ca L.covers.length cc, .int .i64 L.at_] 25) := ⟨_, rfl⟩
  rw [← hwb] at g0 b0
  obtain ⟨y0, y1, y2, y3⟩ := Box4.of g0
  by_cases h1 : L.name.1.size ≤ 100
  case neg =>
    have HF := Lib.hid (show smallL L = false by unfold smallL; rw [decide_eq_false h1]; rfl)
    have q1 : decide (100 < (L.name.1.size : Int)) = true := decide_eq_true (by omega)
    go_enter Tryd.func11, Tryd.ntmps11
    go_wp2
    rw [← hwb]
    go_ret
    exact ⟨ret_bool HF.out.symm, b0⟩
  have q1 : decide (100 < (L.name.1.size : Int)) = false := decide_eq_false (by omega)
  by_cases h2 : L.elems.length ≤ 20
  case neg =>
    have HF := Lib.hid (show smallL L = false by unfold smallL; rw [decide_eq_false h2]; simp)
    have q2 : decide (20 < (L.elems.length : Int)) = true := decide_eq_true (by omega)
    go_enter Tryd.func11, Tryd.ntmps11
    go_wp2
    rw [← hwb]
    go_ret
    exact ⟨ret_bool HF.out.symm, b0⟩
  have q2 : decide (20 < (L.elems.length : Int)) = false := decide_eq_false (by omega)
  by_cases h3 : L.covers.length ≤ 200
  case neg =>
    have HF := Lib.hid (show smallL L = false by unfold smallL; rw [decide_eq_false h3]; simp)
    have q3 : decide (200 < (L.covers.length : Int)) = true := decide_eq_true (by omega)
    go_enter Tryd.func11, Tryd.ntmps11
    go_wp2
    rw [← hwb]
    go_ret
    exact ⟨ret_bool HF.out.symm, b0⟩
  have q3 : decide (200 < (L.covers.length : Int)) = false := decide_eq_false (by omega)
  have HFF := Lib.hid (show smallL L = L.elems.all fun x => decide (x.1.size ≤ 100) by unfold smallL; rw [decide_eq_true h1, decide_eq_true h2, decide_eq_true h3]; simp)
  go_enter Tryd.func11, Tryd.ntmps11
  go_wp2
  rw [← hwb]
  clear hwb
  go_loop [3] (fun i => ∃ k : Nat, k ≤ L.elems.length ∧ i = .int .i64 k ∧ Hid (∀ j x, j < k → L.elems[j]? = some x → x.1.size ≤ 100)) (fun i => L.elems.length - (intOf i).toNat)
  case atStart => exact ⟨0, Nat.zero_le _, rfl, Lib.hid fun j x hj => by omega⟩
  case round =>
    obtain ⟨k, hk, rfl, HN⟩ := hrel
    by_cases hlt : k < L.elems.length
    · obtain ⟨b, off, rfl, hc⟩ := he.at_ (List.getElem?_eq_getElem hlt)
      replace hc := cell_keep b0 hc
      have HG := Lib.hid (List.getElem?_eq_getElem hlt)
      have HM := Lib.hid (List.getElem_mem hlt)
      generalize L.elems[k] = x at *
      have hxs := x.2
      unfold maxLen at hxs
      have hd : decide (k < L.elems.length) = true := decide_eq_true hlt
      have hkI : (k : Int) < (L.elems.length : Int) := by omega
      have hk0 : (0 : Int) ≤ (k : Int) := by omega
      by_cases hx : x.1.size ≤ 100
      · have q4 : decide (100 < (x.1.size : Int)) = false := decide_eq_false (by omega)
        have HN2 := Lib.hid (show ∀ j y, j < k + 1 → L.elems[j]? = some y → y.1.size ≤ 100 from fun j y hj hy => by
          rcases Nat.lt_or_ge j k with h | h
          · exact HN.out j y h hy
          · obtain rfl : j = k := by omega
            rw [HG.out] at hy
            obtain rfl := Option.some.inj hy
            exact hx)
        go_wp2
        go_round
        case rel => exact ⟨k + 1, by omega, by go_num, HN2⟩
        case measure => simp [intOf]; omega
      · have q4 : decide (100 < (x.1.size : Int)) = true := decide_eq_true (by omega)
        have HF := Lib.hid (show smallL L = false by rw [HFF.out]; exact List.all_eq_false.2 ⟨x, HM.out, by simpa using hx⟩)
        go_wp2
        go_ret
        exact ⟨ret_bool HF.out.symm, b0⟩
    · have hd : decide (k < L.elems.length) = false := decide_eq_false hlt
      have HF := Lib.hid (show smallL L = true by
        rw [HFF.out]
        exact List.all_eq_true.2 fun x hx => by
          obtain ⟨j, hj, rfl⟩ := List.getElem_of_mem hx
          exact decide_eq_true (HN.out j _ (by omega) (List.getElem?_eq_getElem hj)))
      go_wp2
      go_ret
      exact ⟨ret_bool HF.out.symm, b0⟩
set_option maxHeartbeats 4000000 in
set_option maxRecDepth 100000 in
theorem Ints_any (va vb : Value) (a b : List Int) (w : World) (ha : IsInts w va a) (hb : IsInts w vb b) : Calls Tryd.prog 22 #[va, vb] w fun e w' => e = .returned (.bool (decide (a = b))) ∧ Below w.heap.size w w' := by
  have ha0 := ha
  have hb0 := hb
  obtain ⟨aa, ac, rfl, m1, m2, m3⟩ := IsRows.shape ha
  obtain ⟨ba, bc, rfl, n1, n2, n3⟩ := IsRows.shape hb
  by_cases hl : a.length = b.length
  case neg =>
    have q : ((a.length : Int) != (b.length : Int)) = true := by simp; omega
    have HF := Lib.hid (show decide (a = b) = false from decide_eq_false fun e => hl (by rw [e]))
    go_enter Tryd.func22, Tryd.ntmps22
    go_wp2
    go_ret
    exact ⟨ret_bool HF.out.symm, Below.refl _ _⟩
  have q : ((a.length : Int) != (b.length : Int)) = false := by simp [hl]
  have HL := Lib.hid hl
  clear hl
  go_enter Tryd.func22, Tryd.ntmps22
  go_wp2
  go_loopw [5] (fun i wr => ∃ k : Nat, k ≤ a.length ∧ i = .int .i64 k ∧ Hid (∀ j, j < k → a[j]? = b[j]?) ∧ Below w.heap.size w wr) (fun i _ => a.length - (intOf i).toNat)
  case atStart => exact ⟨0, Nat.zero_le _, rfl, Lib.hid fun j hj => by omega, Below.refl _ _⟩
  case round =>
    obtain ⟨k, hk, rfl, HN, bR⟩ := hrel
    obtain ⟨wo, rfl⟩ : ∃ wo : World, wo = wr := ⟨_, rfl⟩
    by_cases hlt : k < a.length
    · have hlt2 : k < b.length := by have := HL.out; omega
      obtain ⟨b1, off1, rfl, hc1⟩ := ha0.at_ (List.getElem?_eq_getElem hlt)
      obtain ⟨b2, off2, rfl, hc2⟩ := hb0.at_ (List.getElem?_eq_getElem hlt2)
      replace hc1 := cell_keep bR hc1
      replace hc2 := cell_keep bR hc2
      have HG1 := Lib.hid (List.getElem?_eq_getElem hlt)
      have HG2 := Lib.hid (List.getElem?_eq_getElem hlt2)
      generalize a[k] = x at *
      generalize b[k] = y at *
      have hd : decide (k < a.length) = true := decide_eq_true hlt
      have hkI : (k : Int) < (a.length : Int) := by omega
      have hkJ : (k : Int) < (b.length : Int) := by omega
      have hk0 : (0 : Int) ≤ (k : Int) := by omega
      by_cases hxy : x = y
      · have q4 : (x != y) = false := by simp [hxy]
        have HN2 := Lib.hid (show ∀ j, j < k + 1 → a[j]? = b[j]? from fun j hj => by
          rcases Nat.lt_or_ge j k with h | h
          · exact HN.out j h
          · obtain rfl : j = k := by omega
            rw [HG1.out, HG2.out, hxy])
        clear hxy
        go_wp2
        go_quiet (fail)
        go_wp2
        go_roundw
        case rel => exact ⟨k + 1, by omega, by go_num, HN2, below_drewN bR _⟩
        case measure => simp [intOf]; omega
      · have q4 : (x != y) = true := by simpa using hxy
        have HF := Lib.hid (show decide (a = b) = false from decide_eq_false fun e => hxy (by
          have h1 := HG1.out
          rw [e, HG2.out] at h1
          exact (Option.some.inj h1).symm))
        clear hxy
        go_wp2
        go_quiet (fail)
        go_wp2
        go_ret
        exact ⟨ret_bool HF.out.symm, below_drewN bR _⟩
    · have hd : decide (k < a.length) = false := decide_eq_false hlt
      have HF := Lib.hid (show decide (a = b) = true from decide_eq_true (List.ext_getElem? fun j => by
        rcases Nat.lt_or_ge j k with h | h
        · exact HN.out j h
        · rw [List.getElem?_eq_none (by omega), List.getElem?_eq_none (by have := HL.out; omega)]))
      go_wp2
      go_ret
      exact ⟨ret_bool HF.out.symm, bR⟩
end Go.Proofs.YtkjlflmcojmfgaaDoor
