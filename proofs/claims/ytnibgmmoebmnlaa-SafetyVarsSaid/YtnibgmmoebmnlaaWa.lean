/- The walks of the leaves. -/
import Derived.Test.YtnibgmmoebmnlaaMem
import Derived.Lib.Strings
namespace Go.Proofs.Ytnibgmmoebmnlaa
open Go.RowKit
theorem nm_eq {x y : Nm} (h : x = y) : (x.1.toList == y.1.toList) = true := by subst h; exact beq_self_eq_true _
theorem nm_ne {x y : Nm} (h : x ≠ y) : (x.1.toList == y.1.toList) = false := by
  rw [Lib.toList_data, Lib.toList_data]
  exact beq_eq_false_iff_ne.2 fun e => h (bytes_inj e)
theorem nm_blank {x : Nm} (h : x = noName) : x.1.toList = [] := by subst h; exact Lib.toList_data _
theorem nm_full {x : Nm} (h : x ≠ noName) : ¬x.1.toList = [] ∧ x.1.toList.isEmpty = false := by
  have : ¬x.1.toList = [] := fun e => h (bytes_inj (by rw [Lib.toList_data] at e; exact e))
  exact ⟨this, by simpa using this⟩
theorem few_any (v : Value) (l : List Nm) (w : World) (h : IsNames w v l) :
    Calls Try.prog 12 #[v] w fun e w' => e = .returned (.bool (decide (l.length ≤ 20))) ∧ Below w.heap.size w w' := by
  obtain ⟨a, c, rfl, h, hm⟩ := h
  have hd : decide ((l.length : Int) ≤ 20) = decide (l.length ≤ 20) := by rw [decide_eq_decide]; omega
  have HD := Lib.hid hd
  clear hd
  go_enter Try.func12, Try.ntmps12
  go_wp2
  go_ret
  exact ⟨by rw [← HD.out]; rfl, Below.refl _ _⟩
theorem contains_no {l : List Nm} {x : Nm} (h : ∀ y ∈ l, y ≠ x) : decide (x ∈ l) = false :=
  decide_eq_false_iff_not.2 fun hm => h x hm rfl
theorem contains_at {l : List Nm} {k : Nat} (h : k < l.length) : decide (l[k] ∈ l) = true :=
  decide_eq_true_iff.2 (List.getElem_mem h)
theorem take_ext {α : Type} {l : List α} {p : α → Prop} {k : Nat} (hlt : k < l.length) (h : ∀ y ∈ l.take k, p y) (hk : p l[k]) : ∀ y ∈ l.take (k + 1), p y := by
  intro y hy
  rw [List.take_succ_eq_append_getElem hlt, List.mem_append] at hy
  rcases hy with hy | hy
  · exact h y hy
  · have : y = l[k] := by simpa using hy
    rw [this]; exact hk
theorem In_any (v : Value) (l : List Nm) (x : Nm) (w : World) (h : IsNames w v l) :
    Calls Try.prog 29 #[v, .string x.1] w fun e w' => e = .returned (.bool (decide (x ∈ l))) ∧ Below w.heap.size w w' := by
  obtain ⟨a, c, rfl, h, hm⟩ := h
  go_enter Try.func29, Try.ntmps29
  go_wp2
  go_loopw [5] (fun i wr => ∃ k : Nat, k ≤ l.length ∧ i = .int .i64 k ∧ (∀ y ∈ l.take k, y ≠ x) ∧ Below w.heap.size w wr) (fun i _ => l.length - (intOf i).toNat)
  case atStart => exact ⟨0, Nat.zero_le _, rfl, by simp, Below.refl _ _⟩
  case round =>
    obtain ⟨k, hk, rfl, hno, hb⟩ := hrel
    by_cases hlt : k < l.length
    · obtain ⟨b, off, rfl, hc⟩ := (h.keep (keeps_below hb)).one (List.getElem?_eq_getElem hlt) rfl
      by_cases he : l[k] = x
      · have HC := Lib.hid (show decide (x ∈ l) = true by rw [← he]; exact contains_at hlt)
        have hs := nm_eq he
        clear he
        go_wp2
        go_ret
        exact ⟨by rw [HC.out]; rfl, hb⟩
      · have hs := nm_ne he
        have hno' := take_ext (p := fun y => y ≠ x) hlt hno he
        clear he
        go_wp2
        go_roundw
        case rel => exact ⟨k + 1, by omega, by go_num, hno', hb⟩
        case measure => simp [intOf]; omega
    · have e : k = l.length := by omega
      subst e
      rw [List.take_length] at hno
      have HC := Lib.hid (contains_no hno)
      go_wp2
      go_ret
      exact ⟨by rw [HC.out]; rfl, hb⟩
def lacks (s : Nm → Bool) (t : Tm) : Bool := decide (t.var ≠ noName) && !s t.var
theorem lacks_any (b n : Nat) (s : Nm → Bool) (t : Tm) (w : World) (h : SetAt w b n s) :
    Calls Try.prog 36 #[.map (some b), termV t] w fun e w' => e = .returned (.bool (lacks s t)) ∧ Below w.heap.size w w' := by
  obtain ⟨D, hown, hD⟩ := h
  have hs := hD t.var
  unfold termV lacks
  generalize t.var = x at *
  by_cases he : x = noName
  · have hn := nm_blank he
    have HE := Lib.hid he
    clear he
    go_enter Try.func36, Try.ntmps36
    go_wp2_with (at_lookup; refine wpList_lookup_own_unit _ rfl _ _ 78 rfl 9 80 keyed9 Try.underlying78 (zero80 _) b n D rfl (hown.alloc _) _ _ rfl (keyOf9 x) ?_)
    go_ret
    exact ⟨by rw [HE.out]; rfl, ((Below.refl _ _).alloc (Nat.le_refl _) _).alloc (by simp) _⟩
  · obtain ⟨hn, hn'⟩ := nm_full he
    have HE := Lib.hid he
    clear he
    go_enter Try.func36, Try.ntmps36
    go_wp2_with (at_lookup; refine wpList_lookup_own_unit _ rfl _ _ 78 rfl 9 80 keyed9 Try.underlying78 (zero80 _) b n D rfl (hown.alloc _) _ _ rfl (keyOf9 x) ?_)
    go_ret
    exact ⟨by simp [HE.out], ((Below.refl _ _).alloc (Nat.le_refl _) _).alloc (by simp) _⟩
end Go.Proofs.Ytnibgmmoebmnlaa
