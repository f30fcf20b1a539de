/- What a check computes, in plain Lean. -/
import Derived.Test.YtkjlflmcojmfgaaDoorWd
namespace Go.Proofs.YtkjlflmcojmfgaaDoor
open Go.RowKit
def inR (n : Nat) (c : Int × Int) : Bool := decide (0 ≤ c.1 ∧ c.1 < n ∧ 0 ≤ c.2 ∧ c.2 < n)
def dupN (l : List Nm) : Bool := (List.range l.length).any fun a => (l.take a).any fun y => decide (l[a]? = some y)
def argsOk (L : Ltc) : Bool := nameOk L.name && decide (1 ≤ L.elems.length) && decide (L.elems.length ≤ 8) && decide (L.covers.length ≤ 64) && L.elems.all nameOk && L.covers.all (inR L.elems.length)
def ordL (L : Ltc) : Rl2 := closure L.elems.length L.covers
def checkL (L : Ltc) : Int := if argsOk L = false then 1 else if dupN L.elems = true then 5 else if good L.elems.length (ordL L) = true then 0 else 30
theorem check_args {L : Ltc} (h : argsOk L = false) : checkL L = 1 := if_pos h
theorem check_name {L : Ltc} (h : nameOk L.name = false) : checkL L = 1 := check_args (by unfold argsOk; rw [h]; simp)
theorem check_few {L : Ltc} (h : ¬ 1 ≤ L.elems.length) : checkL L = 1 := check_args (by unfold argsOk; rw [decide_eq_false h]; simp)
theorem check_many {L : Ltc} (h : ¬ L.elems.length ≤ 8) : checkL L = 1 := check_args (by unfold argsOk; rw [decide_eq_false h]; simp)
theorem check_covers {L : Ltc} (h : ¬ L.covers.length ≤ 64) : checkL L = 1 := check_args (by unfold argsOk; rw [decide_eq_false h]; simp)
theorem check_elem {L : Ltc} {x : Nm} (hx : x ∈ L.elems) (h : nameOk x = false) : checkL L = 1 := check_args (by
  unfold argsOk
  have : L.elems.all nameOk = false := List.all_eq_false.2 ⟨x, hx, by simp [h]⟩
  rw [this]; simp)
theorem check_pair {L : Ltc} {c : Int × Int} (hc : c ∈ L.covers) (h : inR L.elems.length c = false) : checkL L = 1 := check_args (by
  unfold argsOk
  have : L.covers.all (inR L.elems.length) = false := List.all_eq_false.2 ⟨c, hc, by simp [h]⟩
  rw [this]; simp)
theorem args_ok {L : Ltc} (h1 : nameOk L.name = true) (h2 : 1 ≤ L.elems.length) (h3 : L.elems.length ≤ 8) (h4 : L.covers.length ≤ 64) (h5 : ∀ x ∈ L.elems, nameOk x = true) (h6 : ∀ c ∈ L.covers, inR L.elems.length c = true) : argsOk L = true := by
  unfold argsOk
  rw [h1, decide_eq_true h2, decide_eq_true h3, decide_eq_true h4, List.all_eq_true.2 h5, List.all_eq_true.2 h6]; rfl
theorem dup_yes {l : List Nm} {a : Nat} {x : Nm} (ha : l[a]? = some x) (h : x ∈ l.take a) : dupN l = true := by
  unfold dupN
  rw [List.any_eq_true]
  refine ⟨a, List.mem_range.2 (List.getElem?_eq_some_iff.1 ha).1, ?_⟩
  rw [List.any_eq_true]
  exact ⟨x, h, decide_eq_true ha⟩
theorem dup_no {l : List Nm} (h : ∀ a x, l[a]? = some x → x ∉ l.take a) : dupN l = false := by
  unfold dupN
  rw [List.any_eq_false]
  intro a _ hy
  rw [List.any_eq_true] at hy
  obtain ⟨x, hx, e⟩ := hy
  exact h a x (of_decide_eq_true e) hx
theorem check_twice {L : Ltc} (h : argsOk L = true) (hd : dupN L.elems = true) : checkL L = 5 := by
  unfold checkL; rw [if_neg (by simp [h]), if_pos hd]
theorem check_order {L : Ltc} (h : argsOk L = true) (hd : dupN L.elems = false) (hg : good L.elems.length (ordL L) = false) : checkL L = 30 := by
  unfold checkL; rw [if_neg (by simp [h]), if_neg (by simp [hd]), if_neg (by simp [hg])]
theorem check_ok {L : Ltc} (h : argsOk L = true) (hd : dupN L.elems = false) (hg : good L.elems.length (ordL L) = true) : checkL L = 0 := by
  unfold checkL; rw [if_neg (by simp [h]), if_neg (by simp [hd]), if_pos hg]
theorem check_zero {L : Ltc} (h : checkL L = 0) : argsOk L = true ∧ dupN L.elems = false ∧ good L.elems.length (ordL L) = true := by
  unfold checkL at h
  cases h1 : argsOk L
  · rw [if_pos h1] at h; cases h
  · cases h2 : dupN L.elems
    · rw [if_neg (by simp [h1]), if_neg (by simp [h2])] at h
      cases h3 : good L.elems.length (ordL L)
      · rw [if_neg (by simp [h3])] at h; cases h
      · exact ⟨rfl, rfl, rfl⟩
    · rw [if_neg (by simp [h1]), if_pos h2] at h; cases h
/-- One pair of the test. -/
def okp (n : Nat) (o : Rl2) (a b : Nat) : Bool := !(decide (a ≠ b) && o a b && o b a) && decide (0 ≤ leastOf n o fun c => o a c && o b c)
theorem good_least {n : Nat} {o : Rl2} (h : leastOf n o (fun b => decide (b < n)) < 0) : good n o = false := by
  unfold good
  rw [leastOf_congr (T := fun b => decide (b < n)) (fun a ha => by simp [ha]), decide_eq_false (by omega)]; rfl
theorem good_pair {n : Nat} {o : Rl2} {a b : Nat} (ha : a < n) (hb : b < n) (h : okp n o a b = false) : good n o = false := by
  cases hg : good n o
  · rfl
  · unfold good at hg
    rw [Bool.and_eq_true, List.all_eq_true] at hg
    have := hg.2 a (List.mem_range.2 ha)
    rw [List.all_eq_true] at this
    have := this b (List.mem_range.2 hb)
    unfold okp at h
    rw [this] at h; cases h
theorem good_all {n : Nat} {o : Rl2} (h0 : ¬ leastOf n o (fun b => decide (b < n)) < 0) (h : ∀ a, a < n → ∀ b, b < n → okp n o a b = true) : good n o = true := by
  unfold good
  rw [leastOf_congr (T := fun b => decide (b < n)) (fun a ha => by simp [ha]), decide_eq_true (by omega), Bool.true_and, List.all_eq_true]
  intro a ha
  rw [List.all_eq_true]
  intro b hb
  exact h a (List.mem_range.1 ha) b (List.mem_range.1 hb)
theorem start_nil (n a b : Nat) : start n [] a b = (decide (a = b) && decide (a < n)) := by simp [start]
theorem start_snoc (n : Nat) (cs : List (Int × Int)) (x y i b : Nat) : start n (cs ++ [((x : Int), (y : Int))]) i b = if i = x then (start n cs i b || decide (y = b)) else start n cs i b := by
  unfold start
  rw [List.any_append]
  simp only [List.any_cons, List.any_nil, Bool.or_false]
  by_cases e : i = x
  · subst e
    rw [if_pos rfl]
    have : (decide ((y : Int) = (b : Int))) = decide (y = b) := by rw [decide_eq_decide]; omega
    rw [this]; simp [Bool.or_assoc]
  · rw [if_neg e, decide_eq_false (by omega : ¬ (x : Int) = (i : Int))]; simp
theorem inR_range {n : Nat} {cs : List (Int × Int)} (h : ∀ c ∈ cs, inR n c = true) : InRange n cs := fun c hc => of_decide_eq_true (h c hc)
end Go.Proofs.YtkjlflmcojmfgaaDoor
