/- A region that draws its order and ends in a store into a cell that it loads: the loads are taken first, and what they read need not stand behind the last operation, which waits for all others. -/
import Derived.OrdersHeld
import Derived.Deep.RegionHeld3
namespace Go.Proofs.YtkjlflmcojmfgaaDoor
/-- What a step writes into the frame, laid out. -/
theorem puts : (∀ (t : Array Value) (ds : List Deferred) (i : Nat) (v : Value), ({ tmps := t, defers := ds } : Act).put (some i) v = { tmps := t.setIfInBounds i v, defers := ds }) ∧ (∀ (t : Array Value) (ds : List Deferred) (v : Value), ({ tmps := t, defers := ds } : Act).put none v = { tmps := t, defers := ds }) ∧
    (∀ (l : List Value) (i : Nat) (v : Value), l.toArray.setIfInBounds i v = (l.set i v).toArray) ∧ (∀ (x : Value) (l : List Value) (v : Value), (x :: l).set 0 v = v :: l) ∧ (∀ (x : Value) (l : List Value) (n : Nat) (v : Value), (x :: l).set (n + 1) v = x :: l.set n v) :=
  ⟨fun _ _ _ _ => rfl, fun _ _ _ => rfl, fun _ _ _ => by simp, fun _ _ _ => rfl, fun _ _ _ _ => rfl⟩
section
variable {P : Program} {ops : Array Oper} {Q : Exit → Act → World → Prop} {md : Region.Mode} {S : World → Prop} {n : Nat}
/-- Whatever order is picked, what is assumed of the world holding behind all operations but those from the n-th on. -/
def AnyT (P : Program) (md : Region.Mode) (ops : Array Oper) (Q : Exit → Act → World → Prop) (S : World → Prop) (n : Nat) : Nat → Array Bool → Act → World → Prop
  | 0, done, a, w => Region.ready md ops done = [] ∧ Q .normal a w
  | f + 1, done, a, w => (Region.ready md ops done = [] → Q .normal a w) ∧ ∀ i ∈ Region.ready md ops done, wpOp P ops Q i (fun a' w' => (i < n → S w') ∧ AnyT P md ops Q S n f (done.setIfInBounds i true) a' w') a w
theorem any_of : ∀ (f : Nat) (done : Array Bool) (a : Act) (w : World), AnyT P md ops Q S n f done a w → wpAny P md ops Q f done a w
  | 0, _, _, _, h => h
  | f + 1, _, _, _, h => ⟨h.1, fun i hi => wpOp_mono (fun a' w' h' => any_of f _ a' w' h'.2) (h.2 i hi)⟩
/-- The operations from the n-th on wait for all that come before it. -/
def lateB (md : Region.Mode) (ops : Array Oper) (n : Nat) : Bool :=
  (List.range ops.size).all fun t => decide (t < n) || (List.range n).all fun i => match ops[t]? with | some o => o.after.any fun e => Region.binds md e && e.on == i | none => false
theorem late_waits (h : lateB md ops n = true) {t i : Nat} {o : Oper} (ho : ops[t]? = some o) (ht : n ≤ t) (hi : i < n) : ∃ e ∈ o.after, Region.binds md e = true ∧ e.on = i := by
  unfold lateB at h
  rw [List.all_eq_true] at h
  have h1 := h t (List.mem_range.2 (Array.getElem?_eq_some_iff.1 ho).1)
  rw [Bool.or_eq_true, decide_eq_true_eq, List.all_eq_true] at h1
  rcases h1 with h1 | h1
  · omega
  · have h2 := h1 i (List.mem_range.2 hi)
    rw [ho] at h2
    obtain ⟨e, he, hb⟩ := Array.any_eq_true'.1 h2
    rw [Bool.and_eq_true, beq_iff_eq] at hb
    exact ⟨e, he, hb⟩
theorem any_first (hl : lateB md ops n = true) {i : Nat} (hin : i < n) {oi : Oper} {v : Value} (hi : ops[i]? = some oi) (hsel : Region.noSelect ops = true)
    (hQ : ∀ c a w, Q (.panic c) (a.put oi.dst v) w → Q (.panic c) a w) (f : Nat) : ∀ (done : Array Bool) (a : Act) (w : World),
      (∀ j oj, ops[j]? = some oj → j ≠ i → done.getD j true = false → (∀ e ∈ oj.after, Region.binds md e = true → e.on ≠ i) → oi.apart ops oj = true) →
      i ∈ Region.ready md ops done → YieldsIf P ops S oi v a → S w → AnyT P md ops Q S n f (done.setIfInBounds i true) (a.put oi.dst v) w → AnyT P md ops Q S n (f + 1) done a w := by
  induction f with
  | zero =>
    intro done a w _ hr hy hS hx
    constructor
    · intro h; rw [h] at hr; cases hr
    · intro j hj
      rcases Nat.decEq j i with hne | he
      · have := ready_mono hj hne
        rw [hx.1] at this
        cases this
      · rw [he]; exact hy.wpOp hi hS ⟨fun _ => hS, hx⟩
  | succ f ih =>
    intro done a w hfree hr hy hS hx
    constructor
    · intro h; rw [h] at hr; cases hr
    · intro j hj
      rcases Nat.decEq j i with hne | he
      · have hstep := hx.2 j (ready_mono hj hne)
        obtain ⟨hju, oj, hoj, hall⟩ := mem_ready.1 hj
        have hfirst : done.getD i false = false := by
          have h0 := (mem_ready.1 hr).1
          rcases Nat.lt_or_ge i done.size with h' | h'
          · simp [h'] at h0 ⊢; exact h0
          · simp [Array.getElem?_eq_none h']
        have hno : ∀ e ∈ oj.after, Region.binds md e = true → e.on ≠ i := fun e he hb heq => by
          have := hall e he hb
          rw [heq, hfirst] at this
          cases this
        have hjn : j < n := by
          rcases Nat.lt_or_ge j n with h | h
          · exact h
          · obtain ⟨e, he, hb, hon⟩ := late_waits hl hoj h hin
            exact absurd hon (hno e he hb)
        have hsel' := Region.noSelect_spec hsel
        refine wpOp_mono (fun a' w' h3 => ?_) (wpOp_putIf hoj (hfree j oj hoj hne hju hno) (fun cs b => hsel' i oi cs b hi) (fun cs b => hsel' j oj cs b hoj) hQ hy hstep)
        obtain ⟨hy', hs', hx'⟩ := h3
        refine ⟨hs', ih _ a' w' (fun k ok hk hki hun hno' => hfree k ok hk hki ?_ hno') (ready_mono hr (Ne.symm hne)) hy' (hs' hjn) ?_⟩
        · rcases Nat.decEq j k with h | h
          · rwa [getD_set_ne true h] at hun
          · rw [← h]; exact hju
        · rw [Array.setIfInBounds_comm _ _ hne]; exact hx'
      · rw [he]; exact hy.wpOp hi hS ⟨fun _ => hS, hx⟩
theorem any_take (hl : lateB md ops n = true) {i : Nat} {oi : Oper} {v : Value} {f : Nat} {done : Array Bool} {a : Act} {w : World} (hi : ops[i]? = some oi) (hin : decide (i < n) = true)
    (hs : Region.noSelect ops = true) (hf : Region.free md ops done i = true) (hr : (Region.ready md ops done).contains i = true)
    (hQ : ∀ c a w, Q (.panic c) (a.put oi.dst v) w → Q (.panic c) a w) (hy : YieldsIf P ops S oi v a) (hS : S w) (h : AnyT P md ops Q S n f (done.setIfInBounds i true) (a.put oi.dst v) w) : AnyT P md ops Q S n (f + 1) done a w :=
  any_first hl (of_decide_eq_true hin) hi hs hQ f done a w (Region.free_spec hi hf) (by simpa using hr) hy hS h
/-- The one operation that may come up now. -/
theorem any_next {i : Nat} {o : Oper} {f : Nat} {done : Array Bool} {a : Act} {w : World} (hr : Region.ready md ops done = [i]) (ho : ops[i]? = some o) (hin : decide (i < n) = true)
    (h : ∀ K : Act → World → Prop, Shut (∀ a w, S w → (S w → AnyT P md ops Q S n f (done.setIfInBounds i true) a w) → K a w) → if Region.wanted o (yielded ops a.tmps) = true then Oper.wp P o a w K Q else K (a.put o.dst undef) w) : AnyT P md ops Q S n (f + 1) done a w := by
  refine ⟨fun h0 => (by rw [hr] at h0; cases h0), fun j hj => ?_⟩
  rw [hr] at hj
  obtain rfl := List.mem_singleton.1 hj
  exact wpOp_step ho fun K hK => h K fun a' w' hS hx => hK a' w' ⟨fun _ => hS, hx hS⟩
theorem any_late {i : Nat} {o : Oper} {f : Nat} {done : Array Bool} {a : Act} {w : World} (hr : Region.ready md ops done = [i]) (ho : ops[i]? = some o) (hin : decide (n ≤ i) = true)
    (h : ∀ K : Act → World → Prop, Shut (∀ a w, AnyT P md ops Q S n f (done.setIfInBounds i true) a w → K a w) → if Region.wanted o (yielded ops a.tmps) = true then Oper.wp P o a w K Q else K (a.put o.dst undef) w) : AnyT P md ops Q S n (f + 1) done a w := by
  refine ⟨fun h0 => (by rw [hr] at h0; cases h0), fun j hj => ?_⟩
  rw [hr] at hj
  obtain rfl := List.mem_singleton.1 hj
  exact wpOp_step ho fun K hK => h K fun a' w' hx => hK a' w' ⟨fun hlt => absurd hlt (by have := of_decide_eq_true hin; omega), hx⟩
theorem any_done {done : Array Bool} {a : Act} {w : World} (hr : Region.ready md ops done = []) (h : Q .normal a w) : ∀ f, AnyT P md ops Q S n f done a w
  | 0 => ⟨hr, h⟩
  | _ + 1 => ⟨fun _ => h, by rw [hr]; simp⟩
theorem wp_region_late (S : World → Prop) (n : Nat) {id : Nat} {a : Act} {w : World} (hm : P.follows .mixedOrders = true) (hS : S w.drew) (h : S w.drew → AnyT P .any ops Q S n ops.size (Array.replicate ops.size false) a w.drew) : (Code.region id ops true).wp P Q a w :=
  wp_region_any hm (any_of _ _ _ _ (h hS))
end
theorem gets : (∀ (l : List Oper) (i : Nat) (h : i < l.toArray.size), l.toArray[i] = l[i]'(by simpa using h)) ∧ (∀ (x : Oper) (l : List Oper) (h : 0 < (x :: l).length), (x :: l)[0] = x) ∧ ∀ (x : Oper) (l : List Oper) (n : Nat) (h : n + 1 < (x :: l).length), (x :: l)[n + 1] = l[n]'(by simpa using h) :=
  ⟨fun _ _ _ => by simp, fun _ _ _ => rfl, fun _ _ _ _ => rfl⟩
end Go.Proofs.YtkjlflmcojmfgaaDoor
