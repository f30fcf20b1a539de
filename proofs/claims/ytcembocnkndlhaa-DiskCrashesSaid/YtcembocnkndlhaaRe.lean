/- The reference's walks: failure, Small, SameBytes. -/
import Derived.Test.YtcembocnkndlhaaRd
namespace Go.Proofs.Ytcembocnkndlhaa
open Go.RowKit
theorem rformed_eq {v : Value} {d : Dk} {w : World} (h : IsDisk w v d) (b : Bool) (hb : formed d = b) :
    Calls Try.prog 38 #[v] w fun e w' => e = .returned (.bool b) ∧ Below w.heap.size w w' := by
  subst hb; exact rformed_any v d w h
set_option maxHeartbeats 1000000 in
theorem rfailure_any (v : Value) (d : Dk) (k : Int) (w : World) (h : IsDisk w v d) :
    Calls Try.prog 59 #[v, .int .i64 k] w fun e w' => e = .returned (.int .i64 (failure d k)) ∧ Below w.heap.size w w' := by
  have h0 := h
  obtain ⟨pa, pc, wa, wcp, rfl, -, -, m1, m2⟩ := h.shape
  obtain ⟨C, hC⟩ : ∃ C, C = Obj.cells #[.slice pa d.pages.length pc, .slice wa d.writes.length wcp, .bool d.down] 25 := ⟨_, rfl⟩
  have b0 := below_new w C
  have x2 := fun w' (hb : Below (w.alloc C).heap.size (w.alloc C) w') => boxed (cs := #[.slice pa d.pages.length pc, .slice wa d.writes.length wcp, .bool d.down]) (t := 25) (w := w) (w' := w') (j := 2) rfl (by rw [← hC]; exact hb)
  cases hf : formed d
  · have H := Lib.hid (show failure d k = 1 by unfold failure; rw [hf]; rfl)
    have HF := Lib.hid hf
    clear hf x2
    go_enter Try.func59, Try.ntmps59
    go_wp2_with fail
    rw [← hC]
    refine (rformed_eq (h0.keep b0) _ HF.out).mono ?_
    rintro e w3 ⟨rfl, b3⟩
    go_wp2
    go_ret
    exact ⟨ret_int H.out.symm, below_trans b0 b3⟩
  · have HF := Lib.hid hf
    by_cases h1 : k < 0
    · have H := Lib.hid (show failure d k = 1 by unfold failure; rw [hf]; simp [h1])
      have hd : decide (k < 0) = true := decide_eq_true h1
      clear hf x2
      go_enter Try.func59, Try.ntmps59
      go_wp2_with fail
      rw [← hC]
      refine (rformed_eq (h0.keep b0) _ HF.out).mono ?_
      rintro e w3 ⟨rfl, b3⟩
      go_wp2
      go_ret
      exact ⟨ret_int H.out.symm, below_trans b0 b3⟩
    · have hd : decide (k < 0) = false := decide_eq_false h1
      by_cases h2 : k ≥ 400
      · have H := Lib.hid (show failure d k = 1 by unfold failure; rw [hf]; simp [h2])
        have hd2 : decide (400 ≤ k) = true := decide_eq_true h2
        clear hf x2
        go_enter Try.func59, Try.ntmps59
        go_wp2_with fail
        rw [← hC]
        refine (rformed_eq (h0.keep b0) _ HF.out).mono ?_
        rintro e w3 ⟨rfl, b3⟩
        go_wp2
        go_ret
        exact ⟨ret_int H.out.symm, below_trans b0 b3⟩
      · have hd2 : decide (400 ≤ k) = false := decide_eq_false h2
        have H := Lib.hid (show failure d k = if d.down = true then 350 else 0 by unfold failure; rw [hf, if_neg (by simp [h1]; omega)])
        clear hf
        go_enter Try.func59, Try.ntmps59
        go_wp2_with fail
        rw [← hC]
        refine (rformed_eq (h0.keep b0) _ HF.out).mono ?_
        rintro e w3 ⟨rfl, b3⟩
        have y2 := x2 _ b3
        clear x2
        obtain ⟨ps, ws, dn⟩ := d
        cases dn
        · go_wp2
          go_ret
          exact ⟨ret_int H.out.symm, below_trans b0 b3⟩
        · go_wp2
          go_ret
          exact ⟨ret_int H.out.symm, below_trans b0 b3⟩
theorem rfailure_eq {v : Value} {d : Dk} {k : Int} {w : World} (h : IsDisk w v d) (r : Int) (hr : failure d k = r) :
    Calls Try.prog 59 #[v, .int .i64 k] w fun e w' => e = .returned (.int .i64 r) ∧ Below w.heap.size w w' := by
  subst hr; exact rfailure_any v d k w h
theorem u8_eq {x y : UInt8} (h : x = y) : (((x.toNat : Nat) : Int) != ((y.toNat : Nat) : Int)) = false := by rw [h]; simp
theorem u8_ne {x y : UInt8} (h : x ≠ y) : (((x.toNat : Nat) : Int) != ((y.toNat : Nat) : Int)) = true := by
  rw [bne_iff_ne]; intro e; exact h (UInt8.toNat_inj.1 (by omega))
theorem take_same {α : Type} {a b : List α} {k : Nat} (ha : k < a.length) (hb : k < b.length) (h : a.take k = b.take k) (e : a[k] = b[k]) : a.take (k + 1) = b.take (k + 1) := by
  rw [List.take_succ_eq_append_getElem ha, List.take_succ_eq_append_getElem hb, h, e]
theorem differ_at {α : Type} {a b : List α} {k : Nat} (ha : k < a.length) (hb : k < b.length) (e : ¬a[k] = b[k]) : ¬a = b := by
  rintro rfl; exact e rfl
/-- What a quiet function that reads memory hands back. -/
def Says (q : Bool) (w : World) (e : Ending) (w' : World) : Prop := e = .returned (.bool q) ∧ ∃ n, w' = w.drewN n
theorem Says.below {q : Bool} {w w' : World} {e : Ending} (h : Says q w e w') : e = .returned (.bool q) ∧ Below w.heap.size w w' := by
  obtain ⟨h1, n, rfl⟩ := h
  exact ⟨h1, below_drewN (Below.refl _ _) n⟩
set_option maxHeartbeats 1000000 in
theorem SameBytes_any (va vb : Value) (a b : List UInt8) (w : World) (ha : IsBytes w va a) (hb : IsBytes w vb b) :
    Calls Try.prog 26 #[va, vb] w (Says (decide (a = b)) w) := by
  obtain ⟨pa, ca, rfl, ha, hma⟩ := ha
  obtain ⟨pb, cb, rfl, hb, hmb⟩ := hb
  by_cases hl : a.length = b.length
  · go_enter Try.func26, Try.ntmps26
    have hl' : ((a.length : Int) != b.length) = false := by rw [bne_eq_false_iff_eq]; omega
    have HL := Lib.hid hl
    have hle : a.length ≤ b.length := by omega
    clear hl
    go_wp2
    go_loopw [5] (fun i wr => ∃ k : Nat, k ≤ a.length ∧ i = .int .i64 k ∧ a.take k = b.take k ∧ ∃ n, wr = w.drewN n) (fun i _ => a.length - (intOf i).toNat)
    case atStart => exact ⟨0, Nat.zero_le _, rfl, by simp, 0, rfl⟩
    case round =>
      obtain ⟨k, hk, rfl, hno, n, rfl⟩ := hrel
      by_cases hlt : k < a.length
      · have hlt' : k < b.length := by omega
        obtain ⟨b1, o1, rfl, c1⟩ := ha.one (List.getElem?_eq_getElem hlt) rfl
        obtain ⟨b2, o2, rfl, c2⟩ := hb.one (List.getElem?_eq_getElem hlt') rfl
        by_cases he : a[k] = b[k]
        · have hq := u8_eq he
          have hno' := take_same hlt hlt' hno he
          clear he
          generalize a[k] = x at *
          generalize b[k] = y at *
          go_wp2
          go_quiet (fail)
          go_wp2
          go_roundw
          case rel => exact ⟨k + 1, by omega, by go_num, hno', n + nq, by simp⟩
          case measure => simp [intOf]; omega
        · have HD := Lib.hid (decide_eq_false (differ_at hlt hlt' he))
          have hq := u8_ne he
          generalize a[k] = x at *
          generalize b[k] = y at *
          go_wp2
          go_quiet (fail)
          go_wp2
          go_ret
          exact ⟨ret_bool HD.out.symm, n + nq, by simp⟩
      · have e : k = a.length := by omega
        subst e
        have hab : a = b := by rw [List.take_length, HL.out, List.take_length] at hno; exact hno
        have HD := Lib.hid (decide_eq_true hab)
        clear hab hno
        go_wp2
        go_ret
        exact ⟨ret_bool HD.out.symm, n, rfl⟩
  · have HD := Lib.hid (decide_eq_false (show ¬a = b from fun e => hl (by rw [e])))
    have hl' : ((a.length : Int) != b.length) = true := by rw [bne_iff_ne]; omega
    go_enter Try.func26, Try.ntmps26
    go_wp2
    go_ret
    exact ⟨ret_bool HD.out.symm, 0, rfl⟩
end Go.Proofs.Ytcembocnkndlhaa
