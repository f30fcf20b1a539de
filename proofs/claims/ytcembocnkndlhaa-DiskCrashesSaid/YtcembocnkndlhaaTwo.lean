/- A region that draws its order: two operations that may come up. -/
import Derived.Test.YtcembocnkndlhaaTail
import Derived.Test.YtcembocnkndlhaaRg
namespace Go.Proofs.Ytcembocnkndlhaa
open Go.RowKit
theorem any_two {P : Program} {ops : Array Oper} {Q : Exit → Act → World → Prop} {md : Region.Mode} {S : World → Prop} {n : Nat} {i j : Nat} {oi oj : Oper} {f : Nat} {done : Array Bool} {a : Act} {w : World} (hr : Region.ready md ops done = [i, j]) (hi : ops[i]? = some oi) (hj : ops[j]? = some oj) (hin : decide (i < n) = true) (hjn : decide (j < n) = true)
    (h1 : ∀ K : Act → World → Prop, Shut (∀ a w, S w → (S w → AnyT P md ops Q S n f (done.setIfInBounds i true) a w) → K a w) → if Region.wanted oi (yielded ops a.tmps) = true then Oper.wp P oi a w K Q else K (a.put oi.dst undef) w)
    (h2 : ∀ K : Act → World → Prop, Shut (∀ a w, S w → (S w → AnyT P md ops Q S n f (done.setIfInBounds j true) a w) → K a w) → if Region.wanted oj (yielded ops a.tmps) = true then Oper.wp P oj a w K Q else K (a.put oj.dst undef) w) : AnyT P md ops Q S n (f + 1) done a w := by
  refine ⟨fun h0 => (by rw [hr] at h0; cases h0), fun k hk => ?_⟩
  rw [hr] at hk
  rcases List.mem_cons.1 hk with rfl | hk
  · exact wpOp_step hi fun K hK => h1 K fun a' w' hS hx => hK a' w' ⟨fun _ => hS, hx hS⟩
  · obtain rfl := List.mem_singleton.1 hk
    exact wpOp_step hj fun K hK => h2 K fun a' w' hS hx => hK a' w' ⟨fun _ => hS, hx hS⟩
theorem OwnR.kept {w w' : World} {base : Nat} {v : Value} {L : List (List UInt8)} {row : Option Nat} (h : OwnR w base v L) (hg : w.grownBy w' row) (hr : ∀ g, row = some g → g < base) : OwnR w' base v L := by
  obtain ⟨us, h1, h2, h3, h4⟩ := h
  have hne : ∀ x : Value, (∀ k, x.ownBlock = some k → base ≤ k) → x.ownBlock = none ∨ x.ownBlock ≠ row := fun x hx => by
    cases hb : x.ownBlock with
    | none => exact .inl rfl
    | some k => exact .inr fun e => by have := hx k hb; have := hr k e.symm; omega
  exact ⟨us, h1.kept hg (hne v (own_from h1)), h2, fun i u l hu hl => ⟨⟨(h3 i u l hu hl).1.1.kept hg (hne u (own_from (h3 i u l hu hl).1.1)), (h3 i u l hu hl).1.2⟩, (h3 i u l hu hl).2⟩, h4⟩
theorem rpages_ts {v : Value} {L : List (List UInt8)} {w : World} {Q : Ending → World → Prop} (h : IsPages w v L) (hl : L.length ≤ 1000) (hl2 : Hid (∀ p ∈ L, p.length ≤ 1000000)) (k : ∀ u w', OwnR w' w.heap.size u L → Below w.heap.size w w' → Q (.returned u) w') : Calls Try.prog 60 #[v] w Q :=
  (rpages_any v L w h hl hl2).mono fun e w' ⟨u, he, hu, hb⟩ => by subst he; exact k u w' hu hb
/-- Writes that append copies. -/
theorem step_appW {w0 wn : World} {ops : Array Oper} {o : Oper} {a : Act} {K : Act → World → Prop} {Q : Exit → Act → World → Prop} {E : Prop} (hgd : o.guard = none) (s y : Operand) (ho : o.op = .call { callee := .builtin .append, args := #[s, y], argTypes := #[23, 23] })
    {v : Value} (hs : a.eval s = v) {x : Value} {L : List Wt} (hx : a.eval y = x) (hW : IsWrites w0 x L) (hb : Below w0.heap.size w0 wn) {base : Nat} (hown : wn.ownsRow base 49 2 v 0 []) (hbase : base ≤ wn.heap.size) (hl : L.length ≤ 1000000000)
    (h : ∀ g c w' xs, w'.ownsRow base 49 2 (.slice g L.length c) L.length xs → (∀ W, W.ownsRow base 49 2 (.slice g L.length c) L.length xs → Below w0.heap.size w0 W → IsWrites W (.slice g L.length c) L) → Below base wn w' → wn.grownBy w' v.ownBlock → K (a.put o.dst (.slice g L.length c)) w') : if Region.wanted o (yielded ops a.tmps) = true then Oper.wp Try.prog o a wn K Q else E := by
  obtain ⟨i0, hi, hz0, hz1, hz2⟩ := info_parts info49
  have hw : Region.wanted o (yielded ops a.tmps) = true := by simp [Region.wanted, hgd]
  obtain ⟨ps, h1, h2, h3⟩ := hW
  refine step_append_rows hw encW s y 23 ho base 49 i0 (.agg #[.int .i64 0, .slice none 0 0]) 2 32 Try.underlying23 hi hz0 hz1 hz2 rfl (by decide) _ _ _ hs hown x ps hx (h1.keep (keeps_below hb)) (fun _ _ => rfl) (writes_one h2 h3) (by unfold maxLen; omega) (by omega) hbase ?_
  intro v' w1 hown' hgrow _
  have bb : Below base wn w1 := (Below.refl base wn).grown hgrow hbase (own_from hown)
  rw [Nat.zero_add, List.nil_append, h2] at hown'
  have key : ∀ W, W.ownsRow base 49 2 v' L.length (ps.flatMap encW) → Below w0.heap.size w0 W → IsWrites W v' L := fun W hO hB => ⟨ps, IsRows.of_owns (by rw [h2]; exact hO) (fun _ _ => rfl) (by omega), h2, fun i p y hp hy => ⟨(h3 i p y hp hy).1, (h3 i p y hp hy).2.keep hB⟩⟩
  rcases hown'.2 with ⟨e1, e0⟩ | ⟨g, cap, cur, e1, _⟩
  · rw [e1] at key hown' ⊢
    have e2 : (0 : Nat) = L.length := e0.symm
    have e3 : (Value.slice none 0 0) = Value.slice none L.length 0 := by rw [← e2]
    rw [e3] at key hown' ⊢
    exact h _ _ w1 _ hown' key bb hgrow
  · rw [e1] at key hown' ⊢
    exact h _ _ w1 _ hown' key bb hgrow
theorem lit49 (w : World) : (w.alloc (.cells #[] 49)).ownsRow w.heap.size 49 2 (.slice (some ⟨w.heap.size, 0, none⟩) 0 0) 0 [] := World.ownsRow_lit w #[] 0 (Nat.le_refl _) (by decide) rfl
end Go.Proofs.Ytcembocnkndlhaa
