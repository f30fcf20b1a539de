/- The walks of formed: its two closures, the library's searches with them. -/
import Derived.Test.YtcembocnkndlhaaWa
namespace Go.Proofs.Ytcembocnkndlhaa
open Go.RowKit
theorem dec_ne {n m : Nat} : decide (n ≠ m) = ((n : Int) != (m : Int)) := by
  rw [Bool.eq_iff_iff]; simp only [decide_eq_true_iff, bne_iff_ne]; omega
theorem bad_any (v : Value) (l : List UInt8) (w : World) (h : IsBytes w v l) :
    Calls Try.prog 77 #[v] w fun e w' => e = .returned (.bool (badPage l)) ∧ Below w.heap.size w w' := by
  obtain ⟨a, c, rfl, hr, hm⟩ := h
  have H := Lib.hid (show ((l.length : Int) != 64) = badPage l from dec_ne.symm)
  go_enter Try.func77, Try.ntmps77
  go_wp2
  go_ret
  exact ⟨ret_bool H.out, Below.refl _ _⟩
theorem bad_yes {v : Value} {l : List UInt8} {w : World} (h : IsBytes w v l) (b : Bool) (hb : badPage l = b) :
    Calls Try.prog 77 #[v] w fun e w' => e = .returned (.bool b) ∧ Below w.heap.size w w' := by
  subst hb; exact bad_any v l w h
/-- What a search comes to: the index of an element, or -1. -/
def Found (b : Bool) (w : World) (e : Ending) (w' : World) : Prop := ((b = false ∧ e = .returned (.int .i64 (-1))) ∨ (b = true ∧ ∃ k : Nat, k ≤ 9223372036854775807 ∧ e = .returned (.int .i64 k))) ∧ Below w.heap.size w w'
theorem idx_bad (v : Value) (L : List (List UInt8)) (w : World) (h : IsPages w v L) :
    Calls Try.prog 89 #[v, .func (.func 77) #[] #[]] w (Found (L.any badPage) w) := by
  have h0 := h
  obtain ⟨a, c, rfl, hm⟩ := h.shape
  go_enter Try.func89, Try.ntmps89
  go_wp2
  go_loopw [5, 8] (fun _ i wr => ∃ k : Nat, k ≤ L.length ∧ i = .int .i64 k ∧ Hid (∀ y ∈ L.take k, badPage y = false) ∧ Below w.heap.size w wr) (fun _ i _ => L.length - (intOf i).toNat)
  case atStart => exact ⟨0, Nat.zero_le _, rfl, Lib.hid (by simp), Below.refl _ _⟩
  case round =>
    obtain ⟨k, hk, rfl, hno, hb⟩ := hrel
    by_cases hlt : k < L.length
    · obtain ⟨b, off, pa, pc, rfl, hc, hp⟩ := (h0.keep hb).at_ (List.getElem?_eq_getElem hlt)
      cases hq : badPage L[k]
      · have hno' : Hid (∀ y ∈ L.take (k + 1), badPage y = false) := Lib.hid (by
          intro y hy
          rw [List.take_succ_eq_append_getElem hlt, List.mem_append] at hy
          rcases hy with hy | hy
          · exact hno.out y hy
          · have : y = L[k] := by simpa using hy
            rw [this]; exact hq)
        generalize L[k] = l at *
        have HQ := Lib.hid hq
        clear hq
        go_wp2_with fail
        refine (bad_yes hp false HQ.out).mono ?_
        rintro e w1 ⟨rfl, b1⟩
        go_wp2
        go_roundw
        case rel => exact ⟨k + 1, by omega, by go_num, hno', below_trans hb b1⟩
        case measure => simp [intOf]; omega
      · have HA := Lib.hid (show L.any badPage = true from List.any_eq_true.2 ⟨L[k], List.getElem_mem hlt, hq⟩)
        generalize L[k] = l at *
        have HQ := Lib.hid hq
        clear hq
        go_wp2_with fail
        refine (bad_yes hp true HQ.out).mono ?_
        rintro e w1 ⟨rfl, b1⟩
        go_wp2
        go_ret
        exact ⟨.inr ⟨HA.out, k, by omega, rfl⟩, below_trans hb b1⟩
    · have e : k = L.length := by omega
      have HA := Lib.hid (show L.any badPage = false by
        have := hno.out
        rw [e, List.take_length] at this
        exact List.any_eq_false.2 (by simpa using this))
      subst e
      go_wp2
      go_ret
      exact ⟨.inl ⟨HA.out, rfl⟩, hb⟩
theorem has_bad (v : Value) (L : List (List UInt8)) (w : World) (h : IsPages w v L) :
    Calls Try.prog 79 #[v, .func (.func 77) #[] #[]] w fun e w' => e = .returned (.bool (L.any badPage)) ∧ Below w.heap.size w w' := by
  have hI := idx_bad v L w h
  obtain ⟨a, c, rfl, hm⟩ := h.shape
  generalize L.any badPage = q at *
  go_enter Try.func79, Try.ntmps79
  go_wp2_with fail
  refine hI.mono ?_
  rintro e w1 ⟨⟨rfl, rfl⟩ | ⟨rfl, k, hk, rfl⟩, b1⟩
  · go_wp2
    go_ret
    exact ⟨rfl, b1⟩
  · go_wp2
    go_ret
    exact ⟨rfl, b1⟩
def wV (at_ : Int) (d : Value) : Value := .agg #[.int .i64 at_, d]
theorem odd_any (at_ : Int) (dv : Value) (l : List UInt8) (g : Nat) (w : World) (h : IsBytes w dv l) (hg : w.cell? ⟨g, 0, none⟩ = some (.func (.func 77) #[] #[])) :
    Calls Try.prog 78 #[wV at_ dv, .pointer (some ⟨g, 0, none⟩)] w fun e w' => e = .returned (.bool (odd ⟨at_, l⟩)) ∧ Below w.heap.size w w' := by
  have h0 := h
  obtain ⟨a, c, rfl, hr, hm⟩ := h
  clear hr
  unfold wV
  have hgl := cell_lt hg
  have b0 := below_new w (.cells #[.int .i64 at_, .slice a l.length c] 49)
  have hx := cell_keep b0 hg
  by_cases h1 : at_ < 0
  · have H := Lib.hid (show odd ⟨at_, l⟩ = true by simp [odd, h1])
    have hd : decide (at_ < 0) = true := decide_eq_true h1
    go_enter Try.func78, Try.ntmps78
    go_wp2
    go_ret
    exact ⟨ret_bool H.out.symm, b0⟩
  · have hd : decide (at_ < 0) = false := decide_eq_false h1
    by_cases h2 : at_ ≥ 400
    · have H := Lib.hid (show odd ⟨at_, l⟩ = true by simp [odd, h2])
      go_enter Try.func78, Try.ntmps78
      go_wp2
      go_ret
      exact ⟨ret_bool H.out.symm, b0⟩
    · have H := Lib.hid (show odd ⟨at_, l⟩ = badPage l by simp [odd, h1, h2])
      have h3 : at_ < 400 := by omega
      go_enter Try.func78, Try.ntmps78
      go_wp2_with fail
      refine (bad_any _ l _ (h0.keep b0)).mono ?_
      rintro e w1 ⟨rfl, b1⟩
      go_wp2
      go_ret
      exact ⟨ret_bool H.out.symm, below_trans b0 b1⟩
end Go.Proofs.Ytcembocnkndlhaa
