/- The plain facts of the head of the laws of relations: its fixed examples. -/
import Derived.Test.YtdibijhaiaiifaaDoorHa
namespace Go.Proofs.YtdibijhaiaiifaaDoor
open Go.RowKit
theorem short1 (c : UInt8) : [c].length ≤ 9223372036854775807 := by simp
abbrev tA : Tp := pairT [97] (short1 97) 1
abbrev tB : Tp := pairT [98] (short1 98) 2
theorem tAB : cmpT tA tB < 0 := by decide +kernel
theorem tBA : ¬ cmpT tB tA < 0 := by decide +kernel
theorem neAB : tA ≠ tB := fun e => by have := tAB; rw [e, cmpT_is.refl] at this; omega
theorem can_zero : IsCan [] := ⟨trivial, by simp⟩
theorem can_one {t : Tp} {s : List Sp} (h : OkW s) : IsCan [(t, s)] := ⟨⟨by simp, trivial⟩, by simp; exact h⟩
theorem can_two {t u : Tp} {s r : List Sp} (h : cmpT t u < 0) (k : OkW s) (l : OkW r) : IsCan [(t, s), (u, r)] := ⟨⟨by simp; exact h, by simp, trivial⟩, by simp; exact ⟨k, l⟩⟩
theorem ok04 : OkW [(0, 4)] := ⟨by simp, by decide +kernel⟩
theorem ok26 : OkW [(2, 6)] := ⟨by simp, by decide +kernel⟩
theorem ok05 : OkW [(0, 5)] := ⟨by simp, by decide +kernel⟩
theorem ok0124 : OkW [(0, 1), (2, 4)] := ⟨by simp, by decide +kernel⟩
theorem mom1 (t u : Tp) (s : List Sp) (k : Nat) : mom [(t, s)] u k = (decide (t = u) && setOf s k) := by rw [mom_cons, mom_nil, Bool.or_false]
theorem mom2 (t v u : Tp) (s r : List Sp) (k : Nat) : mom [(t, s), (v, r)] u k = ((decide (t = u) && setOf s k) || (decide (v = u) && setOf r k)) := by rw [mom_cons, mom1]
theorem not_both (u : Tp) : (decide (tA = u) && decide (tB = u)) = false := by
  rw [Bool.and_eq_false_iff]
  by_cases h : tA = u
  · exact .inr (decide_eq_false fun e => neAB (h.trans e.symm))
  · exact .inl (decide_eq_false h)
abbrev hR : List Rw := [(tA, [(0, 4)]), (tB, [(2, 6)])]
theorem hR_can : IsCan hR := can_two tAB ok04 ok26
section
variable {xs ys zs : List RR}
theorem fit_can (hx : rows xs = hR) (h : CanOf xs zs) : rows zs = hR := can_ext _ _ h.can hR_can fun t k hk => by rw [h.mom t k hk, hx]
theorem k45 : ∀ k, k < 64 → (setOf [(0, 4)] k || setOf [(4, 5)] k) = setOf [(0, 5)] k := by decide +kernel
theorem k12 : ∀ k, k < 64 → (setOf [(0, 4)] k && !setOf [(1, 2)] k) = setOf [(0, 1), (2, 4)] k := by decide +kernel
theorem f_insert (hx : rows xs = hR) (h : OpOf opU xs [rr tA [(4, 5)]] zs) : rows zs = [(tA, [(0, 5)]), (tB, [(2, 6)])] := by
  refine can_ext _ _ h.can (can_two tAB ok05 ok26) fun t k hk => ?_
  rw [h.mom t k hk, hx, show rows [rr tA [(4, 5)]] = [(tA, [(4, 5)])] from rfl, mom2, mom1, mom2, ← k45 k hk]
  unfold opU
  cases decide (tA = t) <;> cases decide (tB = t) <;> simp [Bool.or_comm, Bool.or_left_comm, Bool.or_assoc]
theorem f_remove (hx : rows xs = hR) (h : OpOf opD xs [rr tB [(2, 6)]] zs) : rows zs = [(tA, [(0, 4)])] := by
  refine can_ext _ _ h.can (can_one ok04) fun t k hk => ?_
  rw [h.mom t k hk, hx, show rows [rr tB [(2, 6)]] = [(tB, [(2, 6)])] from rfl, mom2, mom1, mom1]
  unfold opD
  have := not_both t
  revert this
  cases decide (tA = t) <;> cases decide (tB = t) <;> simp
theorem f_union (hx : rows xs = [(tB, [(2, 6)])]) (hy : rows ys = [(tA, [(0, 4)])]) (h : OpOf opU xs ys zs) : rows zs = hR := by
  refine can_ext _ _ h.can hR_can fun t k hk => ?_
  rw [h.mom t k hk, hx, hy, mom1, mom1, mom2]
  exact Bool.or_comm _ _
theorem f_meet (hx : rows xs = [(tA, [(0, 4)])]) (hy : rows ys = [(tB, [(2, 6)])]) (h : OpOf opM xs ys zs) : rows zs = [] := by
  refine can_ext _ _ h.can can_zero fun t k hk => ?_
  rw [h.mom t k hk, hx, hy, mom1, mom1, mom_nil]
  unfold opM
  have := not_both t
  revert this
  cases decide (tA = t) <;> cases decide (tB = t) <;> simp
theorem f_minus (hx : rows xs = hR) (hy : rows ys = [(tA, [(1, 2)])]) (h : OpOf opD xs ys zs) : rows zs = [(tA, [(0, 1), (2, 4)]), (tB, [(2, 6)])] := by
  refine can_ext _ _ h.can (can_two tAB ok0124 ok26) fun t k hk => ?_
  rw [h.mom t k hk, hx, hy, mom2, mom1, mom2, ← k12 k hk]
  unfold opD
  have := not_both t
  revert this
  cases decide (tA = t) <;> cases decide (tB = t) <;> simp
theorem f_when (hx : rows xs = hR) : (canon fun k => mom (rows xs) tB k) = [(2, 6)] := by
  rw [hx, ← ok26.2]
  refine canon_ext fun k hk => ?_
  rw [mom2, decide_eq_false neAB, decide_eq_true rfl, Bool.false_and, Bool.false_or, Bool.true_and]
theorem two_of (h : rows zs = hR) : ∃ x y, zs = [x, y] ∧ x.t = tA ∧ x.s = [(0, 4)] ∧ y.t = tB ∧ y.s = [(2, 6)] := by
  have hl : zs.length = 2 := by rw [← rows_length, h]; rfl
  rcases zs with _ | ⟨x, _ | ⟨y, _ | ⟨z, r⟩⟩⟩
  · cases hl
  · cases hl
  · injection h with h1 h2
    injection h2 with h2 _
    exact ⟨x, y, rfl, congrArg Prod.fst h1, congrArg Prod.snd h1, congrArg Prod.fst h2, congrArg Prod.snd h2⟩
  · simp at hl
theorem f_at (hx : rows xs = hR) {m : Int} {l : List Tp} (h : AtOf xs m l) : l = (if inSet [(0, 4)] m then [tA] else []) ++ (if inSet [(2, 6)] m then [tB] else []) := by
  obtain ⟨zs, hc, e⟩ := h
  obtain ⟨x, y, rfl, h1, h2, h3, h4⟩ := two_of (fit_can hx hc)
  rw [e]
  cases ha : inSet [(0, 4)] m <;> cases hb : inSet [(2, 6)] m <;> simp [List.filter, h1, h2, h3, h4, ha, hb]
theorem f_good (hx : rows xs = hR) : GoodR [2, 1] (rows xs) := by
  rw [hx]
  refine ⟨fun x h => ?_, hR_can⟩
  have hV : ∀ (c : UInt8) (n : Int), validV (symVl [c] (short1 c)) = true → validV (intVl n) = true → Typed [2, 1] (pairT [c] (short1 c) n) := fun c n h1 h2 => by
    refine ⟨rfl, fun i x y hi hy => ?_⟩
    match i, hi, hy with
    | 0, hi, hy =>
      obtain rfl : 2 = x := by simpa using hi
      obtain rfl : symVl [c] (short1 c) = y := by simpa [pairT] using hy
      exact ⟨rfl, h1⟩
    | 1, hi, hy =>
      obtain rfl : 1 = x := by simpa using hi
      obtain rfl : intVl n = y := by simpa [pairT] using hy
      exact ⟨rfl, h2⟩
  rcases List.mem_cons.1 h with rfl | h
  · exact hV 97 1 (by decide +kernel) (by decide +kernel)
  · obtain rfl := List.mem_singleton.1 h
    exact hV 98 2 (by decide +kernel) (by decide +kernel)
theorem f_turned (hx : rows xs = [(tB, [(2, 6)]), (tA, [(0, 4)])]) : ¬ GoodR [2, 1] (rows xs) := fun g => by
  rw [hx] at g
  exact tBA (g.2.1.1 (tA, [(0, 4)]) (by simp))
theorem f_short (hx : rows xs = hR) : ¬ GoodR [2] (rows xs) := fun g => by
  rw [hx] at g
  have := (g.1 (tA, [(0, 4)]) (by simp)).1
  simp [pairT] at this
def zeroVl : Vl := ⟨0, 0, [], by simp⟩
def tmX : Tm := ⟨[88], zeroVl, by simp⟩
def tmC (v : Vl) : Tm := ⟨[], v, by simp⟩
theorem f_select (hx : rows xs = hR) (h : CanOf (xs.filter fun x => matchL [tmX, tmC (intVl 2)] x.t) zs) : rows zs = [(tB, [(2, 6)])] := by
  obtain ⟨x, y, rfl, h1, h2, h3, h4⟩ := two_of hx
  have e1 : matchL [tmX, tmC (intVl 2)] tA = false := by decide +kernel
  have e2 : matchL [tmX, tmC (intVl 2)] tB = true := by decide +kernel
  have e : rows ([x, y].filter fun x => matchL [tmX, tmC (intVl 2)] x.t) = [(tB, [(2, 6)])] := by
    simp only [List.filter, h1, h3, e1, e2]
    show [(y.t, y.s)] = _
    rw [h3, h4]
  exact can_ext _ _ h.can (can_one ok26) fun t k hk => by rw [h.mom t k hk, e]
theorem f_select2 (hx : rows xs = hR) (h : CanOf (xs.filter fun x => matchL [tmX, tmX] x.t) zs) : rows zs = [] := by
  obtain ⟨x, y, rfl, h1, h2, h3, h4⟩ := two_of hx
  have e1 : matchL [tmX, tmX] tA = false := by decide +kernel
  have e2 : matchL [tmX, tmX] tB = false := by decide +kernel
  have e : rows ([x, y].filter fun x => matchL [tmX, tmX] x.t) = [] := by
    simp only [List.filter, h1, h3, e1, e2]
    rfl
  exact can_ext _ _ h.can can_zero fun t k hk => by rw [h.mom t k hk, e]
end
end Go.Proofs.YtdibijhaiaiifaaDoor
