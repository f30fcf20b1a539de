/- The walks of the given program's set of names. -/
import Derived.Test.YtnibgmmoebmnlaaWa
namespace Go.Proofs.Ytnibgmmoebmnlaa
open Go.RowKit
def methodV (b : Nat) : Value := .func (.func 36) #[.map (some b)] #[]
theorem IndexFunc_any (b n : Nat) (s : Nm → Bool) (v : Value) (l : List Tm) (w : World) (hs : SetAt w b n s) (h : IsTerms w v l) :
    Calls Try.prog 49 #[v, methodV b] w fun e w' => (∃ z : Int, e = .returned (.int .i64 z) ∧ decide (z ≥ 0) = l.any (lacks s)) ∧ Below w.heap.size w w' := by
  obtain ⟨a, c, rfl, h, hm⟩ := h
  unfold methodV
  go_enter Try.func49, Try.ntmps49
  go_wp2
  go_loopw [8] (fun i wr => ∃ k : Nat, k ≤ l.length ∧ i = .int .i64 k ∧ (∀ y ∈ l.take k, lacks s y = false) ∧ Below w.heap.size w wr) (fun i _ => l.length - (intOf i).toNat)
  case atStart => exact ⟨0, Nat.zero_le _, rfl, by simp, Below.refl _ _⟩
  case round =>
    obtain ⟨k, hk, rfl, hno, hb⟩ := hrel
    by_cases hlt : k < l.length
    · obtain ⟨b', off, rfl, c0, c1, c2, c3⟩ := terms_at (h.keep (keeps_below hb)) (List.getElem?_eq_getElem hlt)
      have hL := lacks_any b n s l[k] wr (hs.keep hb)
      have hyes := fun (e : lacks s l[k] = true) => Lib.hid (show l.any (lacks s) = true from List.any_eq_true.2 ⟨l[k], List.getElem_mem hlt, e⟩)
      have hno' := take_ext (p := fun y => lacks s y = false) hlt hno
      generalize l[k] = t at *
      go_wp2_with fail
      refine hL.mono ?_
      rintro e w1 ⟨rfl, b1⟩
      cases hq : lacks s t
      · have hno' := hno' hq
        clear hyes
        go_wp2
        go_roundw
        case rel => exact ⟨k + 1, by omega, by go_num, hno', hb.trans (b1.mono hb.size)⟩
        case measure => simp [intOf]; omega
      · have HC := hyes hq
        clear hyes hno'
        go_wp2
        go_ret
        exact ⟨⟨k, rfl, by rw [HC.out]; simp⟩, hb.trans (b1.mono hb.size)⟩
    · have e : k = l.length := by omega
      subst e
      rw [List.take_length] at hno
      have HC := Lib.hid (show l.any (lacks s) = false from List.any_eq_false.2 (by simpa using hno))
      go_wp2
      go_ret
      exact ⟨⟨-1, rfl, by rw [HC.out]; rfl⟩, hb⟩
theorem ContainsFunc_any (b n : Nat) (s : Nm → Bool) (v : Value) (l : List Tm) (w : World) (hs : SetAt w b n s) (h : IsTerms w v l) :
    Calls Try.prog 46 #[v, methodV b] w fun e w' => e = .returned (.bool (l.any (lacks s))) ∧ Below w.heap.size w w' := by
  go_enter Try.func46, Try.ntmps46
  go_wp2_with fail
  refine (IndexFunc_any b n s v l w hs h).mono ?_
  rintro e w1 ⟨⟨z, rfl, hz⟩, b1⟩
  have HZ := Lib.hid hz
  clear hz
  go_wp2
  go_ret
  exact ⟨by rw [← HZ.out]; rfl, b1⟩
theorem Index_any (v : Value) (l : List Nm) (x : Nm) (w : World) (h : IsNames w v l) :
    Calls Try.prog 50 #[v, .string x.1] w fun e w' => (∃ z : Int, e = .returned (.int .i64 z) ∧ decide (z ≥ 0) = decide (x ∈ l)) ∧ Below w.heap.size w w' := by
  obtain ⟨a, c, rfl, h, hm⟩ := h
  go_enter Try.func50, Try.ntmps50
  go_wp2
  go_loopw [8] (fun i wr => ∃ k : Nat, k ≤ l.length ∧ i = .int .i64 k ∧ (∀ y ∈ l.take k, y ≠ x) ∧ Below w.heap.size w wr) (fun i _ => l.length - (intOf i).toNat)
  case atStart => exact ⟨0, Nat.zero_le _, rfl, by simp, Below.refl _ _⟩
  case round =>
    obtain ⟨k, hk, rfl, hno, hb⟩ := hrel
    by_cases hlt : k < l.length
    · obtain ⟨b, off, rfl, hc⟩ := (h.keep (keeps_below hb)).one (List.getElem?_eq_getElem hlt) rfl
      by_cases he : l[k] = x
      · have HC := Lib.hid (show decide (x ∈ l) = true by rw [← he]; exact contains_at hlt)
        have hs := nm_eq he.symm
        clear he
        go_wp2
        go_ret
        exact ⟨⟨k, rfl, by rw [HC.out]; simp⟩, hb⟩
      · have hs := nm_ne (fun e => he e.symm)
        have hno' := take_ext (p := fun y => y ≠ x) hlt hno he
        clear he
        go_wp2
        go_roundw
        case rel => exact ⟨k + 1, by omega, by go_num, hno', hb⟩
        case measure => simp [intOf]; omega
    · have e : k = l.length := by omega
      subst e
      rw [List.take_length] at hno
      have HC := Lib.hid (contains_no hno)
      go_wp2
      go_ret
      exact ⟨⟨-1, rfl, by rw [HC.out]; rfl⟩, hb⟩
theorem Contains_any (v : Value) (l : List Nm) (x : Nm) (w : World) (h : IsNames w v l) :
    Calls Try.prog 48 #[v, .string x.1] w fun e w' => e = .returned (.bool (decide (x ∈ l))) ∧ Below w.heap.size w w' := by
  go_enter Try.func48, Try.ntmps48
  go_wp2_with fail
  refine (Index_any v l x w h).mono ?_
  rintro e w1 ⟨⟨z, rfl, hz⟩, b1⟩
  have HZ := Lib.hid hz
  clear hz
  go_wp2
  go_ret
  exact ⟨by rw [← HZ.out]; rfl, b1⟩
def ofList (l : List Nm) : Nm → Bool := fun x => decide (x ∈ l)
theorem addOne_ofList (l : List Nm) (x y : Nm) : addOne (ofList l) x y = ofList (l ++ [x]) y := by
  unfold addOne ofList
  by_cases e : y = x <;> simp [e]
theorem of_any (v : Value) (l : List Nm) (w : World) (h : IsNames w v l) :
    Calls Try.prog 39 #[v] w fun e w' => ∃ b, e = .returned (.map (some b)) ∧ w.heap.size ≤ b ∧ SetAt w' b l.length (ofList l) ∧ Below w.heap.size w w' := by
  obtain ⟨a, c, rfl, h, hm⟩ := h
  have hmm := @run_makeMap Try.prog
  go_enter Try.func39, Try.ntmps39
  go_wp2
  go_loopw [9] (fun i wr => ∃ k : Nat, k ≤ l.length ∧ i = .int .i64 k ∧ SetAt wr w.heap.size k (ofList (l.take k)) ∧ Below w.heap.size w wr) (fun i _ => l.length - (intOf i).toNat)
  case atStart => exact ⟨0, Nat.zero_le _, rfl, (SetAt.made w).congr (fun x => by simp [ofList]), (Below.refl _ _).alloc (Nat.le_refl _) _⟩
  case round =>
    obtain ⟨k, hk, rfl, hset, hb⟩ := hrel
    by_cases hlt : k < l.length
    · obtain ⟨b, off, rfl, hc⟩ := (h.keep (keeps_below hb)).one (List.getElem?_eq_getElem hlt) rfl
      have HT := Lib.hid (List.take_succ_eq_append_getElem hlt)
      generalize l[k] = x at *
      obtain ⟨D, hown, hD⟩ := hset
      have hkm : k < maxLen := by unfold maxLen; omega
      go_wp2_with (at_mapUpdate; refine wpList_mapUpdate_own _ rfl _ _ _ 78 rfl 9 80 keyed9 Try.underlying78 (unitElem (H := Unit)) w.heap.size k D rfl hown hkm _ _ _ rfl rfl (keyOf9 x) _ [] unitElem_mk ?_; intro w1 hown1 hgrow1)
      go_roundw
      case rel => exact ⟨k + 1, by omega, by go_num, SetAt.congr ⟨_, hown1, has_put hown.isMap hD x _⟩ (fun y => by rw [addOne_ofList, HT.out]), hb.grown hgrow1 hb.size (by simp)⟩
      case measure => simp [intOf]; omega
    · have e : k = l.length := by omega
      subst e
      rw [List.take_length] at hset
      go_wp2
      go_ret
      exact ⟨_, rfl, Nat.le_refl _, hset, hb⟩
end Go.Proofs.Ytnibgmmoebmnlaa
