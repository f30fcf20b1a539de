/- The plain law of LatticeNames. -/
import Derived.Test.YtkjlflmcojmfgaaDoorWo
namespace Go.Proofs.YtkjlflmcojmfgaaDoor
open Go.RowKit
def moreL (L : Ltc) (k : Nat) : Ltc := ⟨L.name, L.elems, L.covers ++ L.covers.reverse.take k, L.at_⟩
theorem more_succ {l : List (Int × Int)} {k : Nat} (h : k < l.length) : l ++ l.reverse.take (k + 1) = (l ++ l.reverse.take k) ++ [l[l.length - 1 - k]'(by omega)] := by
  rw [List.take_succ_eq_append_getElem (by simpa using h), List.append_assoc, List.getElem_reverse]
theorem more_len (L : Ltc) {k : Nat} (h : k ≤ L.covers.length) : (L.covers ++ L.covers.reverse.take k).length = L.covers.length + k := by
  rw [List.length_append, List.length_take, List.length_reverse, Nat.min_eq_left h]
theorem check_more {L : Ltc} (h : L.covers.length + L.covers.length ≤ 64) : checkL (moreL L L.covers.length) = checkL L := by
  have hc : (moreL L L.covers.length).covers = L.covers ++ L.covers.reverse := by
    show L.covers ++ L.covers.reverse.take L.covers.length = _
    rw [List.take_of_length_le (by simp)]
  have ho : ordL (moreL L L.covers.length) = ordL L := by
    unfold ordL
    rw [hc]
    exact closure_same fun c => by rw [List.mem_append, List.mem_reverse]; exact or_self_iff
  have ha : argsOk (moreL L L.covers.length) = argsOk L := by
    unfold argsOk
    rw [hc, List.length_append, List.length_reverse, decide_eq_true h, decide_eq_true (show L.covers.length ≤ 64 by omega), List.all_append, List.all_reverse, Bool.and_self]
    rfl
  unfold checkL
  rw [ho, ha]; rfl
def otherL (L : Ltc) (k : Nat) : Ltc := ⟨L.name, L.elems.drop k ++ L.elems.take k, turned L.elems.length k L.covers, L.at_⟩
theorem other_len (L : Ltc) {k : Nat} (h : k ≤ L.elems.length) : (otherL L k).elems.length = L.elems.length := by
  show (L.elems.drop k ++ L.elems.take k).length = _
  rw [List.length_append, List.length_drop, List.length_take]; omega
theorem nodup_of {l : List Nm} (h : dupN l = false) : l.Nodup := by
  rw [List.nodup_iff_pairwise_ne, List.pairwise_iff_getElem]
  intro i j hi hj hij e
  have : dupN l = true := dup_yes (a := j) (x := l[j]) (List.getElem?_eq_getElem hj) (by rw [← e, List.mem_take_iff_getElem]; exact ⟨i, by omega, rfl⟩)
  rw [h] at this; cases this
theorem dup_of {l : List Nm} (h : l.Nodup) : dupN l = false := dup_no fun a x hx hm => by
  obtain ⟨ha, rfl⟩ := List.getElem?_eq_some_iff.1 hx
  obtain ⟨i, hi, e⟩ := List.mem_take_iff_getElem.1 hm
  rw [List.nodup_iff_pairwise_ne, List.pairwise_iff_getElem] at h
  exact h i a (by omega) ha (by omega) e
theorem check_other {L : Ltc} (h : checkL L = 0) {k : Nat} (hk : k < L.elems.length) : checkL (otherL L k) = 0 := by
  obtain ⟨h1, h2, h3⟩ := check_zero h
  have hL := lat_ok h
  obtain ⟨p1, p2, p3⟩ := args_parts h1
  have hlen := other_len L (Nat.le_of_lt hk)
  unfold argsOk at h1
  simp only [Bool.and_eq_true, decide_eq_true_eq] at h1
  obtain ⟨⟨⟨⟨⟨q1, q2⟩, q3⟩, q4⟩, q5⟩, q6⟩ := h1
  have hr : InRange L.elems.length L.covers := inR_range (List.all_eq_true.1 q6)
  refine check_ok (args_ok q1 (by omega) (by omega) ?_ ?_ ?_) ?_ ?_
  · show (turned L.elems.length k L.covers).length ≤ 64
    unfold turned; rw [List.length_map]; exact q4
  · intro x hx
    refine List.all_eq_true.1 q5 x ?_
    rcases List.mem_append.1 hx with hx | hx
    · exact List.mem_of_mem_drop hx
    · exact List.mem_of_mem_take hx
  · intro c hc
    rw [hlen]
    exact decide_eq_true (turned_range hr c hc)
  · refine dup_of ?_
    have := nodup_of h2
    rw [← List.take_append_drop k L.elems] at this
    exact (List.perm_append_comm.nodup_iff).1 this
  · rw [hlen]
    show good _ (closure (otherL L k).elems.length (turned L.elems.length k L.covers)) = true
    rw [hlen]
    exact good_of_lat (turned_lat hk hr hL)
theorem ord_other {L : Ltc} (h : checkL L = 0) {k : Nat} (hk : k < L.elems.length) {a b : Nat} (ha : a < L.elems.length) (hb : b < L.elems.length) : ordL (otherL L k) (turn L.elems.length k a) (turn L.elems.length k b) = ordL L a b := by
  have hlen := other_len L (Nat.le_of_lt hk)
  show closure (otherL L k).elems.length (turned L.elems.length k L.covers) _ _ = _
  rw [hlen]
  exact turned_clo hk (args_parts (check_zero h).1).2.2.2 ha hb
theorem lub_other {L : Ltc} (h : checkL L = 0) {k : Nat} (hk : k < L.elems.length) {a b j : Nat} (ha : a < L.elems.length) (hb : b < L.elems.length) (hj : IsLub L.elems.length (ordL L) [a, b] j) : lub (otherL L k).elems.length (ordL (otherL L k)) [turn L.elems.length k a, turn L.elems.length k b] = (turn L.elems.length k j : Nat) := by
  have hlen := other_len L (Nat.le_of_lt hk)
  have e : ordL (otherL L k) = closure L.elems.length (turned L.elems.length k L.covers) := by
    show closure (otherL L k).elems.length (turned L.elems.length k L.covers) = _
    rw [hlen]
  rw [hlen, e]
  have hr : InRange L.elems.length L.covers := (args_parts (check_zero h).1).2.2.2
  exact (turned_lat hk hr (lat_ok h)).lub_eq (turned_lub hk hr ha hb hj)
theorem turned_succ {n k : Nat} {l : List (Int × Int)} {i : Nat} {a b : Nat} (h : l[i]? = some ((a : Int), (b : Int))) : turned n k (l.take (i + 1)) = turned n k (l.take i) ++ [(((turn n k a : Nat) : Int), ((turn n k b : Nat) : Int))] := by
  obtain ⟨hi, e⟩ := List.getElem?_eq_some_iff.1 h
  rw [List.take_succ_eq_append_getElem hi, e]
  unfold turned
  rw [List.map_append]; rfl
theorem turned_len (n k : Nat) (l : List (Int × Int)) : (turned n k l).length = l.length := by unfold turned; rw [List.length_map]
theorem small_parts {L : Ltc} (h : L.elems.length ≤ 20 ∧ L.covers.length ≤ 200) : L.elems.length ≤ 20 := h.1
end Go.Proofs.YtkjlflmcojmfgaaDoor
