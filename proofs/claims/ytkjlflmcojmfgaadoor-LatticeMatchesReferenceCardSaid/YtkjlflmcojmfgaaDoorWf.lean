/- The walks of Check, of, inside, In. -/
import Derived.Test.YtkjlflmcojmfgaaDoorWe
namespace Go.Proofs.YtkjlflmcojmfgaaDoor
open Go.RowKit
theorem check_x {v : Value} {L : Ltc} {w : World} (h : IsLtc w v L) (hK : KeysAt w 0) : Calls Tryd.prog 30 #[v] w fun e w' => ∃ q0 q1 q2 q3 q4 q5 q6 q7 : Int, e = .returned (.tuple #[.agg #[.int .u8 q0, .int .u8 q1, .int .u8 q2, .int .u8 q3, .int .u8 q4, .int .u8 q5, .int .u8 q6, .int .u8 q7], .int .i64 (checkL L)]) ∧ Hid (checkL L = 0 → IsOrd [q0, q1, q2, q3, q4, q5, q6, q7] (ordL L)) ∧ Below w.heap.size w w' :=
  (check_any v L w h hK).mono fun e w' ⟨l, he, hl, ho, hb⟩ => by
    obtain ⟨q0, q1, q2, q3, q4, q5, q6, q7, rfl⟩ := eight hl
    exact ⟨q0, q1, q2, q3, q4, q5, q6, q7, he, Lib.hid ho, hb⟩
set_option maxHeartbeats 2000000 in
set_option maxRecDepth 100000 in
theorem Check_any (v : Value) (L : Ltc) (w : World) (h : IsLtc w v L) (hK : KeysAt w 0) : Calls Tryd.prog 12 #[v] w fun e w' => e = .returned (.int .i64 (checkL L)) ∧ Below w.heap.size w w' := by
  have h0 := h
  obtain ⟨ea, ec, ca, cc, rfl, -, -, -⟩ := h.shape
  have g0 := heap_alloc_new w (.cells #[.string L.name.1, .slice ea L.elems.length ec, .slice ca L.covers.length cc, .int .i64 L.at_] 25)
  have b0 := below_new w (.cells #[.string L.name.1, .slice ea L.elems.length ec, .slice ca L.covers.length cc, .int .i64 L.at_] 25)
  obtain ⟨wb, hwb⟩ : ∃ x : World, x = w.alloc (.cells #[.string L.name.1, .slice ea L.elems.length ec, .slice ca L.covers.length cc, .int .i64 L.at_] 25) := ⟨_, rfl⟩
  rw [← hwb] at g0 b0
  obtain ⟨y0, y1, y2, y3⟩ := Box4.of g0
  go_enter Tryd.func12, Tryd.ntmps12
  go_wp2_with fail
  rw [← hwb]
  clear hwb
  refine (check_x (h0.keep (keeps_below b0)) (hK.keep (keeps_below b0))).mono ?_
  rintro e w3 ⟨q0, q1, q2, q3, q4, q5, q6, q7, rfl, -, b3⟩
  go_wp2
  go_ret
  exact ⟨rfl, below_alloc' (below_trans b0 b3)⟩
def OfRet (L : Ltc) (c : Bool) (w : World) (e : Ending) (w' : World) : Prop := ∃ q0 q1 q2 q3 q4 q5 q6 q7 : Int, e = .returned (.tuple #[.agg #[.int .u8 q0, .int .u8 q1, .int .u8 q2, .int .u8 q3, .int .u8 q4, .int .u8 q5, .int .u8 q6, .int .u8 q7], .bool c]) ∧ Hid (checkL L = 0 → IsOrd [q0, q1, q2, q3, q4, q5, q6, q7] (ordL L)) ∧ Below w.heap.size w w'
set_option maxHeartbeats 4000000 in
set_option maxRecDepth 100000 in
theorem of_any (v : Value) (L : Ltc) (w : World) (h : IsLtc w v L) (hK : KeysAt w 0) : Calls Tryd.prog 35 #[v] w (OfRet L (checkL L == 0) w) := by
  have h0 := h
  obtain ⟨ea, ec, ca, cc, rfl, -, -, -⟩ := h.shape
  obtain ⟨C, hC⟩ : ∃ C, C = Obj.cells #[.string L.name.1, .slice ea L.elems.length ec, .slice ca L.covers.length cc, .int .i64 L.at_] 25 := ⟨_, rfl⟩
  obtain ⟨Z, hZ⟩ : ∃ Z, Z = Obj.cells #[.int .u8 0, .int .u8 0, .int .u8 0, .int .u8 0, .int .u8 0, .int .u8 0, .int .u8 0, .int .u8 0] 48 := ⟨_, rfl⟩
  obtain ⟨wb, hwb⟩ : ∃ x : World, x = (w.alloc C).alloc Z := ⟨_, rfl⟩
  have b0 : Below w.heap.size w wb := by subst hwb; exact below_trans (below_new w C) (below_new _ _)
  have g0 : wb.heap[w.heap.size]? = some (.cells #[.string L.name.1, .slice ea L.elems.length ec, .slice ca L.covers.length cc, .int .i64 L.at_] 25 (0, 0)) := by
    subst hwb hC; exact block_keep (heap_alloc_new w _) (below_new _ _)
  have hA : OrdAt wb (w.heap.size + 1) [0, 0, 0, 0, 0, 0, 0, 0] := by
    subst hwb hZ
    have := heap_alloc_new (w.alloc C) (.cells #[.int .u8 0, .int .u8 0, .int .u8 0, .int .u8 0, .int .u8 0, .int .u8 0, .int .u8 0, .int .u8 0] 48)
    unfold OrdAt
    simpa using this
  obtain ⟨y0, y1, y2, y3⟩ := Box4.of g0
  have HX := check_x (h0.keep (keeps_below b0)) (hK.keep (keeps_below b0))
  generalize hc : checkL L = c at HX ⊢
  have HC := Lib.hid hc
  have HX := Lib.hid HX
  clear hc
  go_enter Tryd.func35, Tryd.ntmps35
  go_wp2_with fail
  rw [← hC, ← hZ, ← hwb]
  clear hwb hC hZ
  refine HX.out.mono ?_
  rintro e w3 ⟨q0, q1, q2, q3, q4, q5, q6, q7, rfl, HO, b3⟩
  clear HX y0 y1 y2 y3
  replace hA := hA.keep b3
  replace b0 := below_trans b0 b3
  have r0 := hA.cell (a := 0) rfl
  have r1 := hA.cell (a := 1) rfl
  have r2 := hA.cell (a := 2) rfl
  have r3 := hA.cell (a := 3) rfl
  have r4 := hA.cell (a := 4) rfl
  have r5 := hA.cell (a := 5) rfl
  have r6 := hA.cell (a := 6) rfl
  have r7 := hA.cell (a := 7) rfl
  have hf := fun a => hA.free (a := a)
  go_upto_region 3 with fail
  obtain ⟨w6, hw6⟩ : ∃ x : World, x = ((((((((w3.setCell ⟨w.heap.size + 1, 0, none⟩ (.int .u8 q0)).setCell ⟨w.heap.size + 1, 1, none⟩ (.int .u8 q1)).setCell ⟨w.heap.size + 1, 2, none⟩ (.int .u8 q2)).setCell ⟨w.heap.size + 1, 3, none⟩ (.int .u8 q3)).setCell ⟨w.heap.size + 1, 4, none⟩ (.int .u8 q4)).setCell ⟨w.heap.size + 1, 5, none⟩ (.int .u8 q5)).setCell ⟨w.heap.size + 1, 6, none⟩ (.int .u8 q6)).setCell ⟨w.heap.size + 1, 7, none⟩ (.int .u8 q7)) := ⟨_, rfl⟩
  replace hA := hA.set8 q0 q1 q2 q3 q4 q5 q6 q7
  replace b0 := below_set8 (B := w.heap.size) (β := w.heap.size + 1) (.int .u8 q0) (.int .u8 q1) (.int .u8 q2) (.int .u8 q3) (.int .u8 q4) (.int .u8 q5) (.int .u8 q6) (.int .u8 q7) b0 (by omega)
  rw [← hw6] at hA b0 ⊢
  clear hw6 r0 r1 r2 r3 r4 r5 r6 r7 hf
  have r0 := hA.cell (a := 0) rfl
  have r1 := hA.cell (a := 1) rfl
  have r2 := hA.cell (a := 2) rfl
  have r3 := hA.cell (a := 3) rfl
  have r4 := hA.cell (a := 4) rfl
  have r5 := hA.cell (a := 5) rfl
  have r6 := hA.cell (a := 6) rfl
  have r7 := hA.cell (a := 7) rfl
  have hf := fun a => hA.free (a := a)
  go_wp2
  refine bodyPost_ret (v := .tuple #[.agg #[.int .u8 q0, .int .u8 q1, .int .u8 q2, .int .u8 q3, .int .u8 q4, .int .u8 q5, .int .u8 q6, .int .u8 q7], .bool (c == 0)]) (by simp [results, Tryd.results35, go_sem, r0, r1, r2, r3, r4, r5, r6, r7]) rfl ?_
  exact ⟨q0, q1, q2, q3, q4, q5, q6, q7, rfl, by rw [HC.out]; exact HO, below_set8 (B := w.heap.size) (β := w.heap.size + 1) (.int .u8 q0) (.int .u8 q1) (.int .u8 q2) (.int .u8 q3) (.int .u8 q4) (.int .u8 q5) (.int .u8 q6) (.int .u8 q7) b0 (by omega)⟩
theorem of_ok {v : Value} {L : Ltc} {w : World} (h : IsLtc w v L) (hK : KeysAt w 0) (hc : checkL L = 0) : Calls Tryd.prog 35 #[v] w fun e w' => ∃ q0 q1 q2 q3 q4 q5 q6 q7 : Int, e = .returned (.tuple #[.agg #[.int .u8 q0, .int .u8 q1, .int .u8 q2, .int .u8 q3, .int .u8 q4, .int .u8 q5, .int .u8 q6, .int .u8 q7], .bool true]) ∧ Hid (IsOrd [q0, q1, q2, q3, q4, q5, q6, q7] (ordL L)) ∧ Below w.heap.size w w' :=
  (of_any v L w h hK).mono fun e w' ⟨q0, q1, q2, q3, q4, q5, q6, q7, he, ho, hb⟩ => ⟨q0, q1, q2, q3, q4, q5, q6, q7, by rw [he, hc]; rfl, Lib.hid (ho.out hc), hb⟩
theorem of_no {v : Value} {L : Ltc} {w : World} (h : IsLtc w v L) (hK : KeysAt w 0) (hc : checkL L ≠ 0) : Calls Tryd.prog 35 #[v] w fun e w' => ∃ q0 q1 q2 q3 q4 q5 q6 q7 : Int, e = .returned (.tuple #[.agg #[.int .u8 q0, .int .u8 q1, .int .u8 q2, .int .u8 q3, .int .u8 q4, .int .u8 q5, .int .u8 q6, .int .u8 q7], .bool false]) ∧ Below w.heap.size w w' :=
  (of_any v L w h hK).mono fun e w' ⟨q0, q1, q2, q3, q4, q5, q6, q7, he, ho, hb⟩ => ⟨q0, q1, q2, q3, q4, q5, q6, q7, by rw [he, ne_beq hc], hb⟩
theorem args_parts {L : Ltc} (h : argsOk L = true) : L.elems.length ≤ 8 ∧ 1 ≤ L.elems.length ∧ L.covers.length ≤ 64 ∧ InRange L.elems.length L.covers := by
  unfold argsOk at h
  simp only [Bool.and_eq_true, decide_eq_true_eq, List.all_eq_true] at h
  exact ⟨h.1.1.1.2, h.1.1.1.1.2, h.1.1.2, inR_range h.2⟩
def inAll (n : Nat) (l : List Int) : Bool := l.all fun a => decide (0 ≤ a ∧ a < n)
set_option maxHeartbeats 2000000 in
set_option maxRecDepth 100000 in
theorem inside_any (v : Value) (L : Ltc) (lv : Value) (l : List Int) (w : World) (h : IsLtc w v L) (hl : IsInts w lv l) : Calls Tryd.prog 36 #[v, lv] w fun e w' => e = .returned (.bool (inAll L.elems.length l)) ∧ Below w.heap.size w w' := by
  have h0 := h
  obtain ⟨ea, ec, ca, cc, rfl, -, -, m1, m2, -⟩ := h.shape
  have hl0 := hl
  obtain ⟨la, lc, rfl, n1, n2, n3⟩ := IsRows.shape hl
  have g0 := heap_alloc_new w (.cells #[.string L.name.1, .slice ea L.elems.length ec, .slice ca L.covers.length cc, .int .i64 L.at_] 25)
  have b0 := below_new w (.cells #[.string L.name.1, .slice ea L.elems.length ec, .slice ca L.covers.length cc, .int .i64 L.at_] 25)
  obtain ⟨wb, hwb⟩ : ∃ x : World, x = w.alloc (.cells #[.string L.name.1, .slice ea L.elems.length ec, .slice ca L.covers.length cc, .int .i64 L.at_] 25) := ⟨_, rfl⟩
  rw [← hwb] at g0 b0
  obtain ⟨y0, y1, y2, y3⟩ := Box4.of g0
  go_enter Tryd.func36, Tryd.ntmps36
  go_wp2
  rw [← hwb]
  clear hwb
  go_loop [9, 6] (fun i _ => ∃ k : Nat, k ≤ l.length ∧ i = .int .i64 k ∧ Hid (∀ j x, j < k → l[j]? = some x → 0 ≤ x ∧ x < L.elems.length)) (fun i _ => l.length - (intOf i).toNat)
  case atStart => exact ⟨0, Nat.zero_le _, rfl, Lib.hid fun j x hj => by omega⟩
  case round =>
    obtain ⟨k, hk, rfl, HN⟩ := hrel
    by_cases hlt : k < l.length
    · obtain ⟨b, off, rfl, hc⟩ := hl0.at_ (List.getElem?_eq_getElem hlt)
      replace hc := cell_keep b0 hc
      have HG := Lib.hid (List.getElem?_eq_getElem hlt)
      have HM := Lib.hid (List.getElem_mem hlt)
      generalize l[k] = x at *
      have hd : decide (k < l.length) = true := decide_eq_true hlt
      have hkI : (k : Int) < (l.length : Int) := by omega
      have hk0 : (0 : Int) ≤ (k : Int) := by omega
      by_cases hx : 0 ≤ x ∧ x < L.elems.length
      · obtain ⟨hx0, hx1⟩ := hx
        have q1 : decide (x < 0) = false := decide_eq_false (by omega)
        have q2 : decide ((L.elems.length : Int) ≤ x) = false := decide_eq_false (by omega)
        have HN2 := Lib.hid (show ∀ j y, j < k + 1 → l[j]? = some y → 0 ≤ y ∧ y < L.elems.length from fun j y hj hy => by
          rcases Nat.lt_or_ge j k with h | h
          · exact HN.out j y h hy
          · obtain rfl : j = k := by omega
            rw [HG.out] at hy
            obtain rfl := Option.some.inj hy
            exact ⟨hx0, hx1⟩)
        go_wp2
        go_round
        case rel => exact ⟨k + 1, by omega, by go_num, HN2⟩
        case measure => simp [intOf]; omega
      · have HF := Lib.hid (show inAll L.elems.length l = false from List.all_eq_false.2 ⟨x, HM.out, by simpa using hx⟩)
        by_cases hx0 : x < 0
        · have q1 : decide (x < 0) = true := decide_eq_true hx0
          go_wp2
          go_ret
          exact ⟨ret_bool HF.out.symm, b0⟩
        · have q1 : decide (x < 0) = false := decide_eq_false hx0
          have q2 : decide ((L.elems.length : Int) ≤ x) = true := decide_eq_true (by omega)
          go_wp2
          go_ret
          exact ⟨ret_bool HF.out.symm, b0⟩
    · have hd : decide (k < l.length) = false := decide_eq_false hlt
      have HF := Lib.hid (show inAll L.elems.length l = true from List.all_eq_true.2 fun x hx => by
        obtain ⟨j, hj, rfl⟩ := List.getElem_of_mem hx
        exact decide_eq_true (HN.out j _ (by omega) (List.getElem?_eq_getElem hj)))
      go_wp2
      go_ret
      exact ⟨ret_bool HF.out.symm, b0⟩
set_option maxHeartbeats 2000000 in
set_option maxRecDepth 100000 in
theorem In_any (v : Value) (L : Ltc) (a : Int) (w : World) (h : IsLtc w v L) : Calls Tryd.prog 37 #[v, .int .i64 a] w fun e w' => e = .returned (.bool (decide (0 ≤ a ∧ a < L.elems.length))) ∧ Below w.heap.size w w' := by
  obtain ⟨ea, ec, ca, cc, rfl, -, -, m1, m2, -⟩ := h.shape
  have g0 := heap_alloc_new w (.cells #[.string L.name.1, .slice ea L.elems.length ec, .slice ca L.covers.length cc, .int .i64 L.at_] 25)
  have b0 := below_new w (.cells #[.string L.name.1, .slice ea L.elems.length ec, .slice ca L.covers.length cc, .int .i64 L.at_] 25)
  obtain ⟨wb, hwb⟩ : ∃ x : World, x = w.alloc (.cells #[.string L.name.1, .slice ea L.elems.length ec, .slice ca L.covers.length cc, .int .i64 L.at_] 25) := ⟨_, rfl⟩
  rw [← hwb] at g0 b0
  obtain ⟨y0, y1, y2, y3⟩ := Box4.of g0
  obtain ⟨c, hc⟩ : ∃ c, decide (0 ≤ a ∧ a < (L.elems.length : Int)) = c := ⟨_, rfl⟩
  have HC := Lib.hid hc
  rw [hc]
  clear hc
  by_cases h1 : 0 ≤ a
  · have q1 : decide (0 ≤ a) = true := decide_eq_true h1
    by_cases h2 : a < L.elems.length
    · have q2 : decide (a < (L.elems.length : Int)) = true := decide_eq_true h2
      go_enter Tryd.func37, Tryd.ntmps37
      go_wp2
      rw [← hwb]
      go_ret
      exact ⟨ret_bool (by rw [← HC.out, decide_eq_true ⟨h1, h2⟩]), b0⟩
    · have q2 : decide (a < (L.elems.length : Int)) = false := decide_eq_false h2
      go_enter Tryd.func37, Tryd.ntmps37
      go_wp2
      rw [← hwb]
      go_ret
      exact ⟨ret_bool (by rw [← HC.out, decide_eq_false (by omega : ¬ (0 ≤ a ∧ a < (L.elems.length : Int)))]), b0⟩
  · have q1 : decide (0 ≤ a) = false := decide_eq_false h1
    go_enter Tryd.func37, Tryd.ntmps37
    go_wp2
    rw [← hwb]
    go_ret
    exact ⟨ret_bool (by rw [← HC.out, decide_eq_false (by omega : ¬ (0 ≤ a ∧ a < (L.elems.length : Int)))]), b0⟩
end Go.Proofs.YtkjlflmcojmfgaaDoor
