/- The walks of failure, Clone, Write, Restart, New. -/
import Derived.Test.YtcembocnkndlhaaWc
import Derived.Test.YtcembocnkndlhaaApp
namespace Go.Proofs.Ytcembocnkndlhaa
open Go.RowKit
theorem formed_eq {v : Value} {d : Dk} {w : World} (h : IsDisk w v d) (b : Bool) (hb : formed d = b) :
    Calls Try.prog 65 #[v] w fun e w' => e = .returned (.bool b) ∧ Below w.heap.size w w' := by
  subst hb; exact formed_any v d w h
set_option maxHeartbeats 1000000 in
theorem failure_any (v : Value) (d : Dk) (k : Int) (w : World) (h : IsDisk w v d) :
    Calls Try.prog 56 #[v, .int .i64 k] w fun e w' => e = .returned (.int .i64 (failure d k)) ∧ Below w.heap.size w w' := by
  have h0 := h
  obtain ⟨pa, pc, wa, wc, rfl, -, -, m1, m2⟩ := h.shape
  obtain ⟨C, hC⟩ : ∃ C, C = Obj.cells #[.slice pa d.pages.length pc, .slice wa d.writes.length wc, .bool d.down] 25 := ⟨_, rfl⟩
  have b0 := below_new w C
  have x2 := fun w' (hb : Below (w.alloc C).heap.size (w.alloc C) w') => boxed (cs := #[.slice pa d.pages.length pc, .slice wa d.writes.length wc, .bool d.down]) (t := 25) (w := w) (w' := w') (j := 2) rfl (by rw [← hC]; exact hb)
  cases hf : formed d
  · have H := Lib.hid (show failure d k = 1 by unfold failure; rw [hf]; rfl)
    have HF := Lib.hid hf
    clear hf x2
    go_enter Try.func56, Try.ntmps56
    go_wp2_with fail
    rw [← hC]
    refine (formed_eq (h0.keep b0) _ HF.out).mono ?_
    rintro e w3 ⟨rfl, b3⟩
    go_wp2
    go_ret
    exact ⟨ret_int H.out.symm, below_trans b0 b3⟩
  · have HF := Lib.hid hf
    by_cases h1 : k < 0
    · have H := Lib.hid (show failure d k = 1 by unfold failure; rw [hf]; simp [h1])
      have hd : decide (k < 0) = true := decide_eq_true h1
      clear hf x2
      go_enter Try.func56, Try.ntmps56
      go_wp2_with fail
      rw [← hC]
      refine (formed_eq (h0.keep b0) _ HF.out).mono ?_
      rintro e w3 ⟨rfl, b3⟩
      go_wp2
      go_ret
      exact ⟨ret_int H.out.symm, below_trans b0 b3⟩
    · have hd : decide (k < 0) = false := decide_eq_false h1
      by_cases h2 : k ≥ 400
      · have H := Lib.hid (show failure d k = 1 by unfold failure; rw [hf]; simp [h2])
        have hd2 : decide (400 ≤ k) = true := decide_eq_true h2
        clear hf x2
        go_enter Try.func56, Try.ntmps56
        go_wp2_with fail
        rw [← hC]
        refine (formed_eq (h0.keep b0) _ HF.out).mono ?_
        rintro e w3 ⟨rfl, b3⟩
        go_wp2
        go_ret
        exact ⟨ret_int H.out.symm, below_trans b0 b3⟩
      · have hd2 : decide (400 ≤ k) = false := decide_eq_false h2
        have H := Lib.hid (show failure d k = if d.down = true then 350 else 0 by unfold failure; rw [hf, if_neg (by simp [h1]; omega)])
        clear hf
        go_enter Try.func56, Try.ntmps56
        go_wp2_with fail
        rw [← hC]
        refine (formed_eq (h0.keep b0) _ HF.out).mono ?_
        rintro e w3 ⟨rfl, b3⟩
        have y2 := x2 _ b3
        clear x2
        obtain ⟨ps, ws, dn⟩ := d
        cases dn
        · go_wp2
          go_ret
          exact ⟨ret_int H.out.symm, below_trans b0 b3⟩
        · go_wp2
          go_ret
          exact ⟨ret_int H.out.symm, below_trans b0 b3⟩
theorem info49 : (Try.prog.info? 49).map (fun i => (i.zero, i.size, i.bytes)) = some (some (.agg #[.int .i64 0, .slice none 0 0]), 2, 32) := by kernel_rfl
/-- Writes that the call has gathered. -/
def OwnWrites (w : World) (base : Nat) (v : Value) (L : List Wt) : Prop :=
  ∃ ps : List (Int × Value), w.ownsRow base 49 2 v L.length (ps.flatMap encW) ∧ ps.length = L.length ∧ ∀ (i : Nat) (p : Int × Value) (x : Wt), ps[i]? = some p → L[i]? = some x → p.1 = x.at_ ∧ IsBytes w p.2 x.data
theorem OwnWrites.keep {w w' : World} {base : Nat} {v : Value} {L : List Wt} (h : OwnWrites w base v L) (hb : Below w.heap.size w w') : OwnWrites w' base v L := by
  obtain ⟨ps, h1, h2, h3⟩ := h
  exact ⟨ps, own_keep h1 hb, h2, fun i p x hp hx => ⟨(h3 i p x hp hx).1, (h3 i p x hp hx).2.keep hb⟩⟩
theorem OwnWrites.is {w : World} {base : Nat} {v : Value} {L : List Wt} (h : OwnWrites w base v L) (hm : L.length ≤ 9223372036854775807) : IsWrites w v L := by
  obtain ⟨ps, h1, h2, h3⟩ := h
  rw [← h2] at h1 hm
  exact ⟨ps, IsRows.of_owns h1 (fun _ _ => rfl) hm, h2, h3⟩
theorem IsBytes.one {w : World} {v : Value} {l : List UInt8} (h : IsBytes w v l) : v.oneCell' = true := by
  obtain ⟨a, c, rfl, _⟩ := h; rfl
theorem writes_one {w : World} {ps : List (Int × Value)} {L : List Wt} (h2 : ps.length = L.length) (h3 : ∀ (i : Nat) (p : Int × Value) (x : Wt), ps[i]? = some p → L[i]? = some x → p.1 = x.at_ ∧ IsBytes w p.2 x.data) : ∀ y ∈ ps, ∀ u ∈ encW y, u.oneCell' = true := by
  intro y hy u hu
  obtain ⟨i, hi, rfl⟩ := List.getElem_of_mem hy
  have := (h3 i ps[i] (L[i]'(by omega)) (List.getElem?_eq_getElem hi) (List.getElem?_eq_getElem (by omega))).2.one
  simp [encW] at hu
  rcases hu with rfl | rfl
  · rfl
  · exact this
theorem ownBlock_ne {w : World} {base : Nat} {e : TypeId} {size n : Nat} {v : Value} {xs : List Value} (h : w.ownsRow base e size v n xs) {g : Nat} (hg : g < base) : v.ownBlock ≠ some g := fun e => by have := own_from h g e; omega
/-- A store into a block below what is owned. -/
theorem own_store {w : World} {base : Nat} {e : TypeId} {size n : Nat} {v : Value} {xs : List Value} (h : w.ownsRow base e size v n xs) {p : Addr} (hg : p.block < base) (u : Value) : (w.setCell p u).ownsRow base e size v n xs := ownsRow_setCell_below h hg u
theorem OwnPage.store {w : World} {base : Nat} {v : Value} {l : List UInt8} (h : OwnPage w base v l) {p : Addr} (hg : p.block < base) (u : Value) : OwnPage (w.setCell p u) base v l := by
  obtain ⟨g, e, h1, h2, h3⟩ := h
  exact ⟨g, e, h1, (Below.heap_setCell _ _ _ _ (by omega)).trans h2, h3⟩
set_option maxHeartbeats 1000000 in
set_option maxRecDepth 100000 in
theorem clone_any (v : Value) (ps : List (Int × Value)) (w : World) (h : IsRows 2 encW w v ps) (h1 : ∀ y ∈ ps, ∀ u ∈ encW y, u.oneCell' = true) (hl : ps.length ≤ 1000000000) :
    Calls Try.prog 57 #[v] w fun e w' => ∃ v', e = .returned v' ∧ w'.ownsRow w.heap.size 49 2 v' ps.length (ps.flatMap encW) ∧ Below w.heap.size w w' := by
  obtain ⟨i0, hi, hz0, hz1, hz2⟩ := info_parts info49
  have hr0 := h
  obtain ⟨a, c, rfl, h, hm⟩ := h
  have hq := fun (w : World) (n : Nat) => Lib.run_eql_slice_nil (P := Try.prog) w 23 49 a n c 0 0 Try.underlying23
  cases a with
  | none =>
    have hnil : ps = [] := by
      rcases h with h | ⟨b, off, ha, _⟩
      · exact h
      · cases ha
    subst hnil
    go_enter Try.func57, Try.ntmps57
    go_wp2
    go_ret
    exact ⟨_, rfl, World.ownsRow_nil _ _ _ _, Below.refl _ _⟩
  | some ad =>
    have h0 : (w.alloc (.cells #[] 49)).ownsRow w.heap.size 49 2 (.slice (some ⟨w.heap.size, 0, none⟩) 0 0) 0 [] := World.ownsRow_lit w #[] 0 (Nat.le_refl _) (by decide) rfl
    have b0 := below_new w (.cells #[] 49)
    have hx := hr0.keep (keeps_below b0)
    go_enter Try.func57, Try.ntmps57
    go_wp2_with (at_builtin; refine wpList_append_rows rfl encW _ _ 23 rfl w.heap.size 49 i0 (.agg #[.int .i64 0, .slice none 0 0]) 2 32 Try.underlying23 hi hz0 hz1 hz2 rfl (by decide) _ _ _ rfl h0 _ ps rfl hx (fun _ _ => rfl) h1 (by unfold maxLen; omega) (by omega) (by simp) ?_; intro v' w1 hown' hgrow _)
    go_ret
    refine ⟨v', rfl, ?_, ?_⟩
    · simpa using hown'
    · exact b0.grown hgrow (by simp) (own_from h0)
end Go.Proofs.Ytcembocnkndlhaa
