/- A region that draws its order, with a late store: what is assumed of the world holds until the store is done. -/
import Derived.Test.YtdibijhaiaiifaaDoorKit
namespace Go.Proofs.YtdibijhaiaiifaaDoor
/-- None of the late operations is done. -/
def freshB (late : List Nat) (done : Array Bool) : Bool := late.all fun t => !(done.getD t false)
theorem fresh_set {late : List Nat} {done : Array Bool} {i : Nat} (h : freshB late done = true) (hi : late.contains i = false) : freshB late (done.setIfInBounds i true) = true := by
  unfold freshB at h ⊢
  rw [List.all_eq_true] at h ⊢
  intro t ht
  have h1 := h t ht
  have hne : i ≠ t := fun e => by subst e; simp at hi; exact hi ht
  rw [Array.getD_eq_getD_getElem?] at h1 ⊢
  rw [Array.getElem?_setIfInBounds_ne hne]
  exact h1
theorem fresh_of {late : List Nat} {done : Array Bool} {i : Nat} (h : freshB late (done.setIfInBounds i true) = true) (hi : late.contains i = false) : freshB late done = true := by
  unfold freshB at h ⊢
  rw [List.all_eq_true] at h ⊢
  intro t ht
  have h1 := h t ht
  have hne : i ≠ t := fun e => by subst e; simp at hi; exact hi ht
  rw [Array.getD_eq_getD_getElem?] at h1 ⊢
  rw [Array.getElem?_setIfInBounds_ne hne] at h1
  exact h1
theorem stale {late : List Nat} {done : Array Bool} {p : Prop} (h : freshB late done = false) : freshB late done = true → p := fun k => by rw [h] at k; cases k
section
variable {P : Program} {ops : Array Oper} {Q : Exit → Act → World → Prop} {md : Region.Mode} {S : World → Prop} {late : List Nat}
def AnyL (P : Program) (md : Region.Mode) (ops : Array Oper) (Q : Exit → Act → World → Prop) (S : World → Prop) (late : List Nat) : Nat → Array Bool → Act → World → Prop
  | 0, done, a, w => Region.ready md ops done = [] ∧ Q .normal a w
  | f + 1, done, a, w => (Region.ready md ops done = [] → Q .normal a w) ∧ ∀ i ∈ Region.ready md ops done, wpOp P ops Q i (fun a' w' => (freshB late (done.setIfInBounds i true) = true → S w') ∧ AnyL P md ops Q S late f (done.setIfInBounds i true) a' w') a w
theorem anyL_of : ∀ (f : Nat) (done : Array Bool) (a : Act) (w : World), AnyL P md ops Q S late f done a w → wpAny P md ops Q f done a w
  | 0, _, _, _, h => h
  | f + 1, _, _, _, h => ⟨h.1, fun i hi => wpOp_mono (fun a' w' h' => anyL_of f _ a' w' h'.2) (h.2 i hi)⟩
/-- All late operations wait for i. -/
def awaited (md : Region.Mode) (ops : Array Oper) (late : List Nat) (i : Nat) : Bool := late.all fun t => match ops[t]? with | some o => o.after.any fun e => Region.binds md e && e.on == i | none => true
theorem awaited_spec {i : Nat} (h : awaited md ops late i = true) {t : Nat} {o : Oper} (ho : ops[t]? = some o) (ht : late.contains t = true) : ∃ e ∈ o.after, Region.binds md e = true ∧ e.on = i := by
  unfold awaited at h
  rw [List.all_eq_true] at h
  have h2 := h t (by simpa using ht)
  rw [ho] at h2
  obtain ⟨e, he, hb⟩ := Array.any_eq_true'.1 h2
  rw [Bool.and_eq_true, beq_iff_eq] at hb
  exact ⟨e, he, hb⟩
/-- What is true of the world while an operation may be brought forward: S if it is asked for. -/
theorem anyL_first {S0 : World → Prop} {i : Nat} (hiL : late.contains i = false) (hl : (∀ w, S0 w) ∨ (awaited md ops late i = true ∧ ∀ w, S w → S0 w)) {oi : Oper} {v : Value} (hi : ops[i]? = some oi) (hsel : Region.noSelect ops = true)
    (hQ : ∀ c a w, Q (.panic c) (a.put oi.dst v) w → Q (.panic c) a w) (f : Nat) : ∀ (done : Array Bool) (a : Act) (w : World),
      (∀ j oj, ops[j]? = some oj → j ≠ i → done.getD j true = false → (∀ e ∈ oj.after, Region.binds md e = true → e.on ≠ i) → oi.apart ops oj = true) →
      i ∈ Region.ready md ops done → YieldsIf P ops S0 oi v a → (freshB late done = true → S w) → ((∀ w, S0 w) ∨ freshB late done = true) → AnyL P md ops Q S late f (done.setIfInBounds i true) (a.put oi.dst v) w → AnyL P md ops Q S late (f + 1) done a w := by
  have hS0 : ∀ (done : Array Bool) (w : World), (freshB late done = true → S w) → ((∀ w, S0 w) ∨ freshB late done = true) → S0 w := fun done w h1 h2 => by
    rcases h2 with h2 | h2
    · exact h2 w
    · rcases hl with hl | ⟨_, hl⟩
      · exact hl w
      · exact hl w (h1 h2)
  induction f with
  | zero =>
    intro done a w hfree hr hy hS hF hx
    constructor
    · intro h; rw [h] at hr; cases hr
    · intro j hj
      rcases Nat.decEq j i with hne | he
      · have := ready_mono hj hne
        rw [hx.1] at this
        cases this
      · rw [he]; exact hy.wpOp hi (hS0 done w hS hF) ⟨fun h => hS (fresh_of h hiL), hx⟩
  | succ f ih =>
    intro done a w hfree hr hy hS hF hx
    constructor
    · intro h; rw [h] at hr; cases hr
    · intro j hj
      rcases Nat.decEq j i with hne | he
      · have hstep := hx.2 j (ready_mono hj hne)
        obtain ⟨hju, oj, hoj, hall⟩ := mem_ready.1 hj
        have hfirst : done.getD i false = false := by
          have h0 := (mem_ready.1 hr).1
          rcases Nat.lt_or_ge i done.size with h' | h'
          · simp [h'] at h0 ⊢; exact h0
          · simp [Array.getElem?_eq_none h']
        have hno : ∀ e ∈ oj.after, Region.binds md e = true → e.on ≠ i := fun e he hb heq => by
          have := hall e he hb
          rw [heq, hfirst] at this
          cases this
        have hsel' := Region.noSelect_spec hsel
        refine wpOp_mono (fun a' w' h3 => ?_) (wpOp_putIf hoj (hfree j oj hoj hne hju hno) (fun cs b => hsel' i oi cs b hi) (fun cs b => hsel' j oj cs b hoj) hQ hy hstep)
        obtain ⟨hy', hs', hx'⟩ := h3
        have hs2 : freshB late (done.setIfInBounds j true) = true → S w' := fun h => hs' (by rw [Array.setIfInBounds_comm _ _ (Ne.symm hne)]; exact fresh_set h hiL)
        have hF2 : (∀ w, S0 w) ∨ freshB late (done.setIfInBounds j true) = true := by
          rcases hF with hF | hF
          · exact .inl hF
          · rcases hl with hl | ⟨hl, _⟩
            · exact .inl hl
            · refine .inr (fresh_set hF ?_)
              cases hc : late.contains j with
              | false => rfl
              | true =>
                obtain ⟨e, he, hb, hon⟩ := awaited_spec hl hoj hc
                exact absurd hon (hno e he hb)
        refine ⟨hs2, ih _ a' w' (fun k ok hk hki hun hno' => hfree k ok hk hki ?_ hno') (ready_mono hr (Ne.symm hne)) hy' hs2 hF2 ?_⟩
        · rcases Nat.decEq j k with h | h
          · rwa [getD_set_ne true h] at hun
          · rw [← h]; exact hju
        · rw [Array.setIfInBounds_comm _ _ hne]; exact hx'
      · rw [he]; exact hy.wpOp hi (hS0 done w hS hF) ⟨fun h => hS (fresh_of h hiL), hx⟩
/-- An operation that reads what S says. -/
theorem anyL_read {i : Nat} {oi : Oper} {v : Value} {f : Nat} {done : Array Bool} {a : Act} {w : World} (hi : ops[i]? = some oi) (hiL : late.contains i = false) (hl : awaited md ops late i = true)
    (hs : Region.noSelect ops = true) (hf : Region.free md ops done i = true) (hr : (Region.ready md ops done).contains i = true)
    (hQ : ∀ c a w, Q (.panic c) (a.put oi.dst v) w → Q (.panic c) a w) (hy : YieldsIf P ops S oi v a) (hF : freshB late done = true) (hS : S w) (h : AnyL P md ops Q S late f (done.setIfInBounds i true) (a.put oi.dst v) w) : AnyL P md ops Q S late (f + 1) done a w :=
  anyL_first (S0 := S) hiL (.inr ⟨hl, fun _ h => h⟩) hi hs hQ f done a w (Region.free_spec hi hf) (by simpa using hr) hy (fun _ => hS) (.inr hF) h
/-- An operation that reads no memory. -/
theorem anyL_take {i : Nat} {oi : Oper} {v : Value} {f : Nat} {done : Array Bool} {a : Act} {w : World} (hi : ops[i]? = some oi) (hiL : late.contains i = false)
    (hs : Region.noSelect ops = true) (hf : Region.free md ops done i = true) (hr : (Region.ready md ops done).contains i = true)
    (hQ : ∀ c a w, Q (.panic c) (a.put oi.dst v) w → Q (.panic c) a w) (hy : YieldsIf P ops (fun _ => True) oi v a) (hS : freshB late done = true → S w) (h : AnyL P md ops Q S late f (done.setIfInBounds i true) (a.put oi.dst v) w) : AnyL P md ops Q S late (f + 1) done a w :=
  anyL_first (S0 := fun _ => True) hiL (.inl fun _ => trivial) hi hs hQ f done a w (Region.free_spec hi hf) (by simpa using hr) hy hS (.inl fun _ => trivial) h
/-- The one operation that may come up now. -/
theorem anyL_next {i : Nat} {o : Oper} {f : Nat} {done : Array Bool} {a : Act} {w : World} (hr : Region.ready md ops done = [i]) (ho : ops[i]? = some o)
    (h : ∀ K : Act → World → Prop, Shut (∀ a w, (freshB late (done.setIfInBounds i true) = true → S w) → ((freshB late (done.setIfInBounds i true) = true → S w) → AnyL P md ops Q S late f (done.setIfInBounds i true) a w) → K a w) → if Region.wanted o (yielded ops a.tmps) = true then Oper.wp P o a w K Q else K (a.put o.dst undef) w) : AnyL P md ops Q S late (f + 1) done a w := by
  refine ⟨fun h0 => (by rw [hr] at h0; cases h0), fun j hj => ?_⟩
  rw [hr] at hj
  obtain rfl := List.mem_singleton.1 hj
  exact wpOp_step ho fun K hK => h K fun a' w' hS hx => hK a' w' ⟨hS, hx hS⟩
theorem anyL_two {i j : Nat} {oi oj : Oper} {f : Nat} {done : Array Bool} {a : Act} {w : World} (hr : Region.ready md ops done = [i, j]) (hi : ops[i]? = some oi) (hj : ops[j]? = some oj)
    (h1 : ∀ K : Act → World → Prop, Shut (∀ a w, (freshB late (done.setIfInBounds i true) = true → S w) → ((freshB late (done.setIfInBounds i true) = true → S w) → AnyL P md ops Q S late f (done.setIfInBounds i true) a w) → K a w) → if Region.wanted oi (yielded ops a.tmps) = true then Oper.wp P oi a w K Q else K (a.put oi.dst undef) w)
    (h2 : ∀ K : Act → World → Prop, Shut (∀ a w, (freshB late (done.setIfInBounds j true) = true → S w) → ((freshB late (done.setIfInBounds j true) = true → S w) → AnyL P md ops Q S late f (done.setIfInBounds j true) a w) → K a w) → if Region.wanted oj (yielded ops a.tmps) = true then Oper.wp P oj a w K Q else K (a.put oj.dst undef) w) : AnyL P md ops Q S late (f + 1) done a w := by
  refine ⟨fun h0 => (by rw [hr] at h0; cases h0), fun k hk => ?_⟩
  rw [hr] at hk
  rcases List.mem_cons.1 hk with rfl | hk
  · exact wpOp_step hi fun K hK => h1 K fun a' w' hS hx => hK a' w' ⟨hS, hx hS⟩
  · obtain rfl := List.mem_singleton.1 hk
    exact wpOp_step hj fun K hK => h2 K fun a' w' hS hx => hK a' w' ⟨hS, hx hS⟩
theorem anyL_three {i j k : Nat} {oi oj ok : Oper} {f : Nat} {done : Array Bool} {a : Act} {w : World} (hr : Region.ready md ops done = [i, j, k]) (hi : ops[i]? = some oi) (hj : ops[j]? = some oj) (hk : ops[k]? = some ok)
    (h1 : ∀ K : Act → World → Prop, Shut (∀ a w, (freshB late (done.setIfInBounds i true) = true → S w) → ((freshB late (done.setIfInBounds i true) = true → S w) → AnyL P md ops Q S late f (done.setIfInBounds i true) a w) → K a w) → if Region.wanted oi (yielded ops a.tmps) = true then Oper.wp P oi a w K Q else K (a.put oi.dst undef) w)
    (h2 : ∀ K : Act → World → Prop, Shut (∀ a w, (freshB late (done.setIfInBounds j true) = true → S w) → ((freshB late (done.setIfInBounds j true) = true → S w) → AnyL P md ops Q S late f (done.setIfInBounds j true) a w) → K a w) → if Region.wanted oj (yielded ops a.tmps) = true then Oper.wp P oj a w K Q else K (a.put oj.dst undef) w)
    (h3 : ∀ K : Act → World → Prop, Shut (∀ a w, (freshB late (done.setIfInBounds k true) = true → S w) → ((freshB late (done.setIfInBounds k true) = true → S w) → AnyL P md ops Q S late f (done.setIfInBounds k true) a w) → K a w) → if Region.wanted ok (yielded ops a.tmps) = true then Oper.wp P ok a w K Q else K (a.put ok.dst undef) w) : AnyL P md ops Q S late (f + 1) done a w := by
  refine ⟨fun h0 => (by rw [hr] at h0; cases h0), fun t ht => ?_⟩
  rw [hr] at ht
  rcases List.mem_cons.1 ht with rfl | ht
  · exact wpOp_step hi fun K hK => h1 K fun a' w' hS hx => hK a' w' ⟨hS, hx hS⟩
  · rcases List.mem_cons.1 ht with rfl | ht
    · exact wpOp_step hj fun K hK => h2 K fun a' w' hS hx => hK a' w' ⟨hS, hx hS⟩
    · obtain rfl := List.mem_singleton.1 ht
      exact wpOp_step hk fun K hK => h3 K fun a' w' hS hx => hK a' w' ⟨hS, hx hS⟩
theorem anyL_done {done : Array Bool} {a : Act} {w : World} (hr : Region.ready md ops done = []) (h : Q .normal a w) : ∀ f, AnyL P md ops Q S late f done a w
  | 0 => ⟨hr, h⟩
  | _ + 1 => ⟨fun _ => h, by rw [hr]; simp⟩
/-- Ways that meet again. -/
theorem anyL_merge {f0 : Nat} {d0 : Array Bool} {a0 : Act} {w0 : World} (G : Nat → Array Bool → Act → World → Prop) (h1 : ∀ f d a w, G f d a w → AnyL P md ops Q S late f d a w) (h2 : (∀ f d a w, G f d a w → AnyL P md ops Q S late f d a w) → AnyL P md ops Q S late f0 d0 a0 w0) : AnyL P md ops Q S late f0 d0 a0 w0 := h2 h1
theorem wp_region_L (S : World → Prop) (late : List Nat) {id : Nat} {a : Act} {w : World} (hm : P.follows .mixedOrders = true) (hS : S w.drew) (h : S w.drew → AnyL P .any ops Q S late ops.size (Array.replicate ops.size false) a w.drew) : (Code.region id ops true).wp P Q a w :=
  wp_region_any hm (anyL_of _ _ _ _ (h hS))
end
end Go.Proofs.YtdibijhaiaiifaaDoor
