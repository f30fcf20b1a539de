/- The plain laws of canonical: the loop over a sorted list. -/
import Derived.Test.YtdibijhaiaiifaaDoorHold
namespace Go.Proofs.YtdibijhaiaiifaaDoor
open Go.RowKit
/-- Rows few and small. -/
structure Sml (n : Nat) (xs : List RR) : Prop where
  len : xs.length ≤ n
  each : ∀ x ∈ xs, x.t.length ≤ 64 ∧ x.s.length ≤ 64
/-- Nothing that it reads lies before base. -/
def IsRelF (w : World) (base : Nat) (v : Value) (ys : List RR) : Prop := ∀ w', Agree (fun k => k < base) w w' → IsRel w' v ys
theorem IsRelF.rel {w : World} {base : Nat} {v : Value} {ys : List RR} (h : IsRelF w base v ys) : IsRel w v ys := h w (Agree.refl _ _)
theorem IsRelF.keep {w w' : World} {base : Nat} {v : Value} {ys : List RR} (h : IsRelF w base v ys) (hb : Below w.heap.size w w') : IsRelF w' base v ys := fun w2 h2 => h w2 ((Agree.of_below hb).trans h2)
theorem IsRelF.mono {w : World} {a b : Nat} {v : Value} {ys : List RR} (h : IsRelF w b v ys) (hab : a ≤ b) : IsRelF w a v ys := fun w2 h2 => h w2 (h2.mono fun _ hk => Nat.lt_of_lt_of_le hk hab)
theorem Hold.relF {w : World} {base n : Nat} {v : Value} {l : List RR} (h : Hold 2 44 encR RowOk (fun k => k < n) w base v l) (hn : n ≤ base) (hm : l.length ≤ 9223372036854775807) : IsRelF w n v l := fun _ hw => (h.agree hw fun _ hk => Nat.lt_of_lt_of_le hk hn).rel hm
structure CanOf (xs ys : List RR) : Prop where
  can : IsCan (rows ys)
  mom : ∀ t k, k < 64 → mom (rows ys) t k = mom (rows xs) t k
  sml : ∀ n, Sml n xs → Sml n ys
theorem Up_snoc {a : List Rw} {x : Rw} (h : Up a) (hx : ∀ y ∈ a, cmpT y.1 x.1 < 0) : Up (a ++ [x]) := by
  induction a with
  | nil => exact ⟨by simp, trivial⟩
  | cons y a ih =>
    refine ⟨fun z hz => ?_, ih h.2 fun z hz => hx z (by simp [hz])⟩
    rcases List.mem_append.1 hz with hz | hz
    · exact h.1 z hz
    · simp at hz; subst hz; exact hx y (by simp)
theorem mem_rows {l : List RR} {y : Rw} : y ∈ rows l ↔ ∃ x ∈ l, x.rw = y := by simp [rows]
theorem can_snoc {out : List RR} {r : RR} (h : IsCan (rows out)) (hx : ∀ y ∈ out, cmpT y.t r.t < 0) (hr : OkW r.s) : IsCan (rows (out ++ [r])) := by
  rw [rows_append]
  refine ⟨Up_snoc h.1 fun y hy => ?_, fun y hy => ?_⟩
  · obtain ⟨x, hx', rfl⟩ := mem_rows.1 hy
    exact hx x hx'
  · rcases List.mem_append.1 hy with hy | hy
    · exact h.2 y hy
    · obtain ⟨x, hx', rfl⟩ := mem_rows.1 hy
      simp at hx'; subst hx'; exact hr
theorem okW_canon {S : Nat → Bool} (h : canon S ≠ []) : OkW (canon S) := ⟨h, canon_again S⟩
theorem canon_none {S : Nat → Bool} (h : canon S = []) {k : Nat} (hk : k < 64) : S k = false := by
  rw [← setOf_canon S k hk, h]; rfl
structure CInv (L out : List RR) (i : Nat) : Prop where
  can : IsCan (rows out)
  mom : ∀ t k, k < 64 → mom (rows out) t k = mom (rows (L.take i)) t k
  lt : ∀ x ∈ out, ∀ y ∈ L.drop i, cmpT x.t y.t < 0
  len : out.length ≤ i
  each : (∀ x ∈ L, x.t.length ≤ 64 ∧ x.s.length ≤ 64) → ∀ x ∈ out, x.t.length ≤ 64 ∧ x.s.length ≤ 64
theorem CInv.start (L : List RR) : CInv L [] 0 := ⟨⟨trivial, by simp [rows]⟩, fun _ _ _ => by simp, by simp, Nat.le_refl _, by simp⟩
theorem CInv.done {L out xs : List RR} {i : Nat} (h : CInv L out i) (hi : i = L.length) (hp : L.Perm xs) : CanOf xs out := by
  refine ⟨h.can, fun t k hk => ?_, fun n hs => ⟨?_, h.each fun x hx => hs.each x (hp.mem_iff.1 hx)⟩⟩
  · rw [h.mom t k hk, hi, List.take_length]
    exact mom_perm (hp.map _) t k
  · have := h.len; have := hs.len; have := hp.length_eq; omega
structure WInv (L : List RR) (t : Tp) (i k : Nat) (W : List Sp) : Prop where
  le : i ≤ k
  same : ∀ y ∈ (L.drop i).take (k - i), y.t = t
  set : ∀ j, setOf W j = mom (rows ((L.drop i).take (k - i))) t j
  len : (∀ x ∈ L, x.t.length ≤ 64 ∧ x.s.length ≤ 64) → W.length ≤ (k - i) * 64
theorem WInv.start (L : List RR) (t : Tp) (i : Nat) : WInv L t i i [] := ⟨Nat.le_refl _, by simp, fun j => by simp; rfl, by simp⟩
theorem setOf_cat (a b : List Sp) (k : Nat) : setOf (a ++ b) k = (setOf a k || setOf b k) := by simp [setOf, has, List.any_append]
theorem WInv.step {L : List RR} {t : Tp} {i k : Nat} {W : List Sp} (h : WInv L t i k W) {x : RR} (hx : L[k]? = some x) (he : cmpT t x.t = 0) : WInv L t i (k + 1) (W ++ x.s) := by
  have ht := (cmpT_is.eq _ _).1 he
  have hle := h.le
  have e : (L.drop i).take (k + 1 - i) = (L.drop i).take (k - i) ++ [x] := by
    rw [show k + 1 - i = (k - i) + 1 by omega, List.take_add_one, List.getElem?_drop, show i + (k - i) = k by omega, hx]
    rfl
  refine ⟨by omega, ?_, fun j => ?_, fun hs => ?_⟩
  · rw [e]
    intro y hy
    rcases List.mem_append.1 hy with hy | hy
    · exact h.same y hy
    · simp at hy; subst hy; exact ht.symm
  · rw [setOf_cat, e, rows_append, mom_append, h.set j]
    congr 1
    show _ = ((decide (x.t = t) && setOf x.s j) || false)
    rw [decide_eq_true ht.symm, Bool.true_and, Bool.or_false]
  · have h1 := h.len hs
    have h2 := (hs x (List.mem_of_getElem? hx)).2
    rw [List.length_append, show k + 1 - i = (k - i) + 1 by omega, Nat.add_mul]
    omega
theorem mom_same {P : List RR} {t t' : Tp} (h : ∀ y ∈ P, y.t = t) (hne : t ≠ t') (j : Nat) : mom (rows P) t' j = false := by
  unfold mom
  rw [List.any_eq_false]
  intro y hy
  obtain ⟨x, hx, rfl⟩ := mem_rows.1 hy
  have : x.rw.1 ≠ t' := by rw [show x.rw.1 = x.t from rfl, h x hx]; exact hne
  simp [this]
theorem take_split {L : List RR} {i k : Nat} (h : i ≤ k) : L.take k = L.take i ++ (L.drop i).take (k - i) := by
  have := List.take_add (l := L) (i := i) (j := k - i)
  rwa [show i + (k - i) = k by omega] at this
theorem drop_mem {L : List RR} {i k : Nat} (h : i ≤ k) {y : RR} (hy : y ∈ L.drop k) : y ∈ L.drop i := by
  have e : L.drop k = (L.drop i).drop (k - i) := by rw [List.drop_drop]; congr 1; omega
  rw [e] at hy
  exact List.mem_of_mem_drop hy
section
variable {L out : List RR} {i k : Nat} {W : List Sp} {r : RR}
theorem CInv.skip (h : CInv L out i) (hw : WInv L r.t i k W) (h0 : canon (setOf W) = []) : CInv L out k := by
  have hle := hw.le
  refine ⟨h.can, fun t j hj => ?_, fun x hx y hy => h.lt x hx y (drop_mem hw.le hy), by have := h.len; omega, h.each⟩
  rw [take_split hw.le, rows_append, mom_append, h.mom t j hj]
  by_cases e : r.t = t
  · subst e
    rw [← hw.set j, canon_none h0 hj, Bool.or_false]
  · rw [mom_same hw.same e, Bool.or_false]
theorem CInv.put (hs : SortedR L) (h : CInv L out i) (hi : L[i]? = some r) (hw : WInv L r.t i k W) (hik : i < k) (hend : ∀ x, L[k]? = some x → ¬ cmpT r.t x.t = 0) (h0 : canon (setOf W) ≠ []) {q : RR} (hq : q.t = r.t) (hqs : q.s = canon (setOf W)) : CInv L (out ++ [q]) k := by
  have hle := hw.le
  have hri : r ∈ L.drop i := by
    refine List.mem_of_getElem? (i := 0) ?_
    rw [List.getElem?_drop]; exact hi
  refine ⟨can_snoc h.can (fun y hy => by rw [hq]; exact h.lt y hy r hri) (by rw [hqs]; exact okW_canon h0), fun t j hj => ?_, fun x hx y hy => ?_, ?_, fun hx y hy => ?_⟩
  · rw [rows_append, mom_append, take_split hw.le, rows_append, mom_append, h.mom t j hj]
    congr 1
    show ((decide (q.t = t) && setOf q.s j) || false) = _
    rw [Bool.or_false, hq, hqs, setOf_canon _ _ hj]
    by_cases e : r.t = t
    · subst e
      rw [decide_eq_true rfl, Bool.true_and, hw.set j]
    · rw [mom_same hw.same e, decide_eq_false e, Bool.false_and]
  · rcases List.mem_append.1 hx with hx | hx
    · exact h.lt x hx y (drop_mem hw.le hy)
    · simp at hx; subst hx
      rw [hq]
      obtain ⟨j, hj⟩ := List.getElem?_of_mem hy
      rw [List.getElem?_drop] at hj
      have hkj := (List.getElem?_eq_some_iff.1 hj).1
      have hk : k < L.length := by omega
      have hkx := List.getElem?_eq_getElem hk
      have hne := hend _ hkx
      have p := List.pairwise_iff_getElem.1 hs
      obtain ⟨hil, hie⟩ := List.getElem?_eq_some_iff.1 hi
      have p1 := p i k hil hk hik
      rw [hie] at p1
      have p1' : cmpT r.t L[k].t < 0 := by omega
      cases j with
      | zero =>
        rw [Nat.add_zero, hkx] at hj
        cases hj; exact p1'
      | succ j =>
        obtain ⟨hjl, hje⟩ := List.getElem?_eq_some_iff.1 hj
        have p2 := p k (k + (j + 1)) hk hjl (by omega)
        rw [hje] at p2
        exact cmpT_is.lt_le p1' p2
  · have := h.len; simp; omega
  · rcases List.mem_append.1 hy with hy | hy
    · exact h.each hx y hy
    · simp at hy; subst hy
      rw [hq, hqs]
      exact ⟨(hx r (List.mem_of_getElem? hi)).1, Nat.le_trans (canon_le _) (by omega)⟩
theorem WInv.more (hw : WInv L r.t i k W) (hi : L[i]? = some r) (hend : k = L.length ∨ ∀ x, L[k]? = some x → ¬ cmpT r.t x.t = 0) : i < k := by
  rcases Nat.lt_or_eq_of_le hw.le with h | h
  · exact h
  · subst h
    rcases hend with h | h
    · have := (List.getElem?_eq_some_iff.1 hi).1; omega
    · exact absurd (cmpT_is.refl _) (h r hi)
end
end Go.Proofs.YtdibijhaiaiifaaDoor
