/- A region that draws its order: two operations that may come up. -/
import Derived.Test.YtkjlflmcojmfgaaDoorTail
namespace Go.Proofs.YtkjlflmcojmfgaaDoor
theorem any_two {P : Program} {ops : Array Oper} {Q : Exit → Act → World → Prop} {md : Region.Mode} {S : World → Prop} {n : Nat} {i j : Nat} {oi oj : Oper} {f : Nat} {done : Array Bool} {a : Act} {w : World} (hr : Region.ready md ops done = [i, j]) (hi : ops[i]? = some oi) (hj : ops[j]? = some oj) (hin : decide (i < n) = true) (hjn : decide (j < n) = true)
    (h1 : ∀ K : Act → World → Prop, Shut (∀ a w, S w → (S w → AnyT P md ops Q S n f (done.setIfInBounds i true) a w) → K a w) → if Region.wanted oi (yielded ops a.tmps) = true then Oper.wp P oi a w K Q else K (a.put oi.dst undef) w)
    (h2 : ∀ K : Act → World → Prop, Shut (∀ a w, S w → (S w → AnyT P md ops Q S n f (done.setIfInBounds j true) a w) → K a w) → if Region.wanted oj (yielded ops a.tmps) = true then Oper.wp P oj a w K Q else K (a.put oj.dst undef) w) : AnyT P md ops Q S n (f + 1) done a w := by
  refine ⟨fun h0 => (by rw [hr] at h0; cases h0), fun k hk => ?_⟩
  rw [hr] at hk
  rcases List.mem_cons.1 hk with rfl | hk
  · exact wpOp_step hi fun K hK => h1 K fun a' w' hS hx => hK a' w' ⟨fun _ => hS, hx hS⟩
  · obtain rfl := List.mem_singleton.1 hk
    exact wpOp_step hj fun K hK => h2 K fun a' w' hS hx => hK a' w' ⟨fun _ => hS, hx hS⟩
end Go.Proofs.YtkjlflmcojmfgaaDoor
