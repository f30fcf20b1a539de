/- The walks of formed and failure. -/
import Derived.Test.YtcembocnkndlhaaWb
import Derived.Laws.EntriesVeiled
namespace Go.Proofs.Ytcembocnkndlhaa
open Go.RowKit
theorem odd_yes {x : Wt} {dv : Value} {g : Nat} {w : World} (h : IsBytes w dv x.data) (hg : w.cell? ⟨g, 0, none⟩ = some (.func (.func 77) #[] #[])) (b : Bool) (hb : odd x = b) :
    Calls Try.prog 78 #[.agg #[.int .i64 x.at_, dv], .pointer (some ⟨g, 0, none⟩)] w fun e w' => e = .returned (.bool b) ∧ Below w.heap.size w w' := by
  subst hb; exact odd_any x.at_ dv x.data g w h hg
set_option maxHeartbeats 400000 in
theorem idx_odd (v : Value) (L : List Wt) (g : Nat) (w : World) (h : IsWrites w v L) (hg : w.cell? ⟨g, 0, none⟩ = some (.func (.func 77) #[] #[])) :
    Calls Try.prog 90 #[v, .func (.func 78) #[] #[.pointer (some ⟨g, 0, none⟩)]] w (Found (L.any odd) w) := by
  have h0 := h
  obtain ⟨a, c, rfl, hm⟩ := h.shape
  go_enter Try.func90, Try.ntmps90
  go_wp2
  go_loopw [5, 8] (fun _ i wr => ∃ k : Nat, k ≤ L.length ∧ i = .int .i64 k ∧ Hid (∀ y ∈ L.take k, odd y = false) ∧ Below w.heap.size w wr) (fun _ i _ => L.length - (intOf i).toNat)
  case atStart => exact ⟨0, Nat.zero_le _, rfl, Lib.hid (by simp), Below.refl _ _⟩
  case round =>
    obtain ⟨k, hk, rfl, hno, hb⟩ := hrel
    have hg' := cell_keep hb hg
    by_cases hlt : k < L.length
    · obtain ⟨b, off, pa, pc, rfl, hc, hc', hp⟩ := (h0.keep hb).at_ (List.getElem?_eq_getElem hlt)
      cases hq : odd L[k]
      · have hno' : Hid (∀ y ∈ L.take (k + 1), odd y = false) := Lib.hid (by
          intro y hy
          rw [List.take_succ_eq_append_getElem hlt, List.mem_append] at hy
          rcases hy with hy | hy
          · exact hno.out y hy
          · have : y = L[k] := by simpa using hy
            rw [this]; exact hq)
        generalize L[k] = l at *
        have HQ := Lib.hid hq
        clear hq
        go_wp2_with fail
        refine (odd_yes hp hg' false HQ.out).mono ?_
        rintro e w1 ⟨rfl, b1⟩
        go_wp2
        go_roundw
        case rel => exact ⟨k + 1, by omega, by go_num, hno', below_trans hb b1⟩
        case measure => simp [intOf]; omega
      · have HA := Lib.hid (show L.any odd = true from List.any_eq_true.2 ⟨L[k], List.getElem_mem hlt, hq⟩)
        generalize L[k] = l at *
        have HQ := Lib.hid hq
        clear hq
        go_wp2_with fail
        refine (odd_yes hp hg' true HQ.out).mono ?_
        rintro e w1 ⟨rfl, b1⟩
        go_wp2
        go_ret
        exact ⟨.inr ⟨HA.out, k, by omega, rfl⟩, below_trans hb b1⟩
    · have e : k = L.length := by omega
      have HA := Lib.hid (show L.any odd = false by
        have := hno.out
        rw [e, List.take_length] at this
        exact List.any_eq_false.2 (by simpa using this))
      subst e
      go_wp2
      go_ret
      exact ⟨.inl ⟨HA.out, rfl⟩, hb⟩
theorem has_odd (v : Value) (L : List Wt) (g : Nat) (w : World) (h : IsWrites w v L) (hg : w.cell? ⟨g, 0, none⟩ = some (.func (.func 77) #[] #[])) :
    Calls Try.prog 80 #[v, .func (.func 78) #[] #[.pointer (some ⟨g, 0, none⟩)]] w fun e w' => e = .returned (.bool (L.any odd)) ∧ Below w.heap.size w w' := by
  have hI := idx_odd v L g w h hg
  obtain ⟨a, c, rfl, hm⟩ := h.shape
  generalize L.any odd = q at *
  go_enter Try.func80, Try.ntmps80
  go_wp2_with fail
  refine hI.mono ?_
  rintro e w1 ⟨⟨rfl, rfl⟩ | ⟨rfl, k, hk, rfl⟩, b1⟩
  · go_wp2
    go_ret
    exact ⟨rfl, b1⟩
  · go_wp2
    go_ret
    exact ⟨rfl, b1⟩
theorem has_bad_eq {v : Value} {L : List (List UInt8)} {w : World} (h : IsPages w v L) (b : Bool) (hb : L.any badPage = b) :
    Calls Try.prog 79 #[v, .func (.func 77) #[] #[]] w fun e w' => e = .returned (.bool b) ∧ Below w.heap.size w w' := by
  subst hb; exact has_bad v L w h
theorem has_odd_eq {v : Value} {L : List Wt} {g : Nat} {w : World} (h : IsWrites w v L) (hg : w.cell? ⟨g, 0, none⟩ = some (.func (.func 77) #[] #[])) (b : Bool) (hb : L.any odd = b) :
    Calls Try.prog 80 #[v, .func (.func 78) #[] #[.pointer (some ⟨g, 0, none⟩)]] w fun e w' => e = .returned (.bool b) ∧ Below w.heap.size w w' := by
  subst hb; exact has_odd v L g w h hg
set_option maxHeartbeats 1000000 in
theorem formed_any (v : Value) (d : Dk) (w : World) (h : IsDisk w v d) :
    Calls Try.prog 65 #[v] w fun e w' => e = .returned (.bool (formed d)) ∧ Below w.heap.size w w' := by
  obtain ⟨pa, pc, wa, wc, rfl, hp, hw, m1, m2⟩ := h.shape
  obtain ⟨ps, ws, dn⟩ := d
  dsimp only at *
  obtain ⟨wb, hwb⟩ : ∃ x : World, x = (w.alloc (.cells #[.slice pa ps.length pc, .slice wa ws.length wc, .bool dn] 25)).alloc (.cells #[.func (.func 77) #[] #[]] 99) := ⟨_, rfl⟩
  have b1 := below_new w (.cells #[.slice pa ps.length pc, .slice wa ws.length wc, .bool dn] 25)
  have b2 : Below (w.alloc (.cells #[.slice pa ps.length pc, .slice wa ws.length wc, .bool dn] 25)).heap.size (w.alloc (.cells #[.slice pa ps.length pc, .slice wa ws.length wc, .bool dn] 25)) wb := by subst hwb; exact below_new _ _
  have b0 : Below w.heap.size w wb := below_trans b1 b2
  have x0 := fun w' (hb : Below wb.heap.size wb w') => boxed (j := 0) rfl (below_trans b2 hb)
  have x1 := fun w' (hb : Below wb.heap.size wb w') => boxed (j := 1) rfl (below_trans b2 hb)
  have x2 := fun w' (hb : Below wb.heap.size wb w') => boxed (j := 2) rfl (below_trans b2 hb)
  have x3 : ∀ w', Below wb.heap.size wb w' → w'.cell? ⟨w.heap.size + 1, 0, none⟩ = some (.func (.func 77) #[] #[]) := fun w' hb => by
    subst hwb
    have := boxed (j := 0) rfl hb
    simpa using this
  by_cases hl : ps.length ≤ 400
  · have hd : decide ((ps.length : Int) ≤ 400) = true := decide_eq_true (by omega)
    cases hA : ps.any badPage
    · cases hB : ws.any odd
      · have H := Lib.hid (show formed ⟨ps, ws, dn⟩ = !(dn && decide (0 < ws.length)) by unfold formed; simp only [hA, hB]; simp [hl])
        have HA := Lib.hid hA
        have HB := Lib.hid hB
        clear hA hB
        go_enter Try.func65, Try.ntmps65
        go_wp2_with fail
        rw [← hwb]
        refine (has_bad_eq (hp.keep b0) _ HA.out).mono ?_
        rintro e w3 ⟨rfl, b3⟩
        have y1 := x1 _ b3
        have y3 := x3 _ b3
        go_wp2_with fail
        refine (has_odd_eq (hw.keep (below_trans b0 b3)) y3 _ HB.out).mono ?_
        rintro e w4 ⟨rfl, b4⟩
        have b5 := below_trans b3 b4
        clear y1 y3
        have y1 := x1 _ b5
        have y2 := x2 _ b5
        clear x0 x1 x2 x3
        cases dn
        · go_wp2
          go_ret
          exact ⟨ret_bool H.out.symm, below_trans b0 b5⟩
        · go_wp2
          go_ret
          exact ⟨ret_bool (by rw [H.out]; simp), below_trans b0 b5⟩
      · have H := Lib.hid (show formed ⟨ps, ws, dn⟩ = false by unfold formed; simp only [hA, hB]; simp [hl])
        have HA := Lib.hid hA
        have HB := Lib.hid hB
        clear hA hB
        go_enter Try.func65, Try.ntmps65
        go_wp2_with fail
        rw [← hwb]
        refine (has_bad_eq (hp.keep b0) _ HA.out).mono ?_
        rintro e w3 ⟨rfl, b3⟩
        have y1 := x1 _ b3
        have y3 := x3 _ b3
        go_wp2_with fail
        refine (has_odd_eq (hw.keep (below_trans b0 b3)) y3 _ HB.out).mono ?_
        rintro e w4 ⟨rfl, b4⟩
        clear x0 x1 x2 x3
        go_wp2
        go_ret
        exact ⟨ret_bool H.out.symm, below_trans b0 (below_trans b3 b4)⟩
    · have H := Lib.hid (show formed ⟨ps, ws, dn⟩ = false by unfold formed; simp only [hA]; simp)
      have HA := Lib.hid hA
      clear hA
      go_enter Try.func65, Try.ntmps65
      go_wp2_with fail
      rw [← hwb]
      refine (has_bad_eq (hp.keep b0) _ HA.out).mono ?_
      rintro e w3 ⟨rfl, b3⟩
      clear x0 x1 x2 x3
      go_wp2
      go_ret
      exact ⟨ret_bool H.out.symm, below_trans b0 b3⟩
  · have H := Lib.hid (show formed ⟨ps, ws, dn⟩ = false by unfold formed; simp [hl])
    have hd : decide ((ps.length : Int) ≤ 400) = false := decide_eq_false (by omega)
    clear x0 x1 x2 x3
    go_enter Try.func65, Try.ntmps65
    go_wp2_with fail
    go_ret
    rw [← hwb]
    exact ⟨ret_bool H.out.symm, b0⟩
end Go.Proofs.Ytcembocnkndlhaa
