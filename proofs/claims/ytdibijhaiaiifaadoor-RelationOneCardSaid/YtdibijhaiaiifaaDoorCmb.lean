/- The plain laws of combine: what it makes of the pairs. -/
import Derived.Test.YtdibijhaiaiifaaDoorBox
namespace Go.Proofs.YtdibijhaiaiifaaDoor
/-- What combine makes of one pair. -/
def comb1 (op : Bool → Bool → Bool) (p : RR × RR) : List Rw := if canon (fun k => op (setOf p.1.s k) (setOf p.2.s k)) = [] then [] else [(p.1.t, canon fun k => op (setOf p.1.s k) (setOf p.2.s k))]
def combL (op : Bool → Bool → Bool) (l : List (RR × RR)) : List Rw := l.flatMap (comb1 op)
theorem combL_append (op : Bool → Bool → Bool) (a : List (RR × RR)) (p : RR × RR) : combL op (a ++ [p]) = combL op a ++ comb1 op p := by simp [combL]
section
variable {op : Bool → Bool → Bool}
theorem mom_comb1 (p : RR × RR) (t : Tp) {k : Nat} (hk : k < 64) : mom (comb1 op p) t k = (decide (p.1.t = t) && op (setOf p.1.s k) (setOf p.2.s k)) := by
  unfold comb1
  split
  · rename_i h
    rw [mom_nil, canon_none (S := fun k => op (setOf p.1.s k) (setOf p.2.s k)) h hk, Bool.and_false]
  · rw [mom_cons, mom_nil, Bool.or_false, setOf_canon _ _ hk]
theorem setOf_nil (k : Nat) : setOf [] k = false := rfl
theorem mom_less {t : Tp} {r : List RR} (h : ∀ y ∈ r, cmpT t y.t < 0) (k : Nat) : mom (rows r) t k = false := mom_none (fun y hy => by obtain ⟨x, hx, rfl⟩ := mem_rows.1 hy; exact h x hx) k
theorem up_head {x : RR} {a : List RR} (h : Up (rows (x :: a))) : ∀ y ∈ a, cmpT x.t y.t < 0 := fun y hy => h.1 y.rw (mem_rows.2 ⟨y, hy, rfl⟩)
theorem up_all {x y : RR} {b : List RR} (h : cmpT x.t y.t < 0) (hb : Up (rows (y :: b))) : ∀ z ∈ y :: b, cmpT x.t z.t < 0 := by
  intro z hz
  rcases List.mem_cons.1 hz with rfl | hz
  · exact h
  · exact cmpT_is.trans _ _ _ h (up_head hb z hz)
theorem rows_cons (x : RR) (a : List RR) : rows (x :: a) = x.rw :: rows a := rfl
theorem comb_mom (h0 : op false false = false) : ∀ (n : Nat) (a b : List RR), a.length + b.length ≤ n → Up (rows a) → Up (rows b) → ∀ t k, k < 64 → mom (combL op (pairsL a b)) t k = op (mom (rows a) t k) (mom (rows b) t k)
  | _, [], [], _, _, _, t, k, hk => by rw [pairs_nil]; exact h0.symm
  | 0, x :: a, b, h, _, _, _, _, _ => by simp at h
  | 0, [], y :: b, h, _, _, _, _, _ => by simp at h
  | n + 1, x :: a, [], h, ha, hb, t, k, hk => by
    have ih := comb_mom h0 n a [] (by simp at h ⊢; omega) ha.2 hb t k hk
    rw [pairs_left]
    show mom (comb1 op _ ++ combL op _) t k = _
    rw [mom_append, mom_comb1 _ _ hk, ih, rows_cons, mom_cons]
    show (decide (x.t = t) && op (setOf x.s k) false || op (mom (rows a) t k) false) = op (decide (x.t = t) && setOf x.s k || mom (rows a) t k) false
    by_cases e : x.t = t
    · subst e
      rw [mom_less (up_head ha) k, decide_eq_true rfl, h0]; simp
    · rw [decide_eq_false e]; simp
  | n + 1, [], y :: b, h, ha, hb, t, k, hk => by
    have ih := comb_mom h0 n [] b (by simp at h ⊢; omega) ha hb.2 t k hk
    rw [pairs_right]
    show mom (comb1 op _ ++ combL op _) t k = _
    rw [mom_append, mom_comb1 _ _ hk, ih, rows_cons, mom_cons]
    show (decide (y.t = t) && op false (setOf y.s k) || op false (mom (rows b) t k)) = op false (decide (y.t = t) && setOf y.s k || mom (rows b) t k)
    by_cases e : y.t = t
    · subst e
      rw [mom_less (up_head hb) k, decide_eq_true rfl, h0]; simp
    · rw [decide_eq_false e]; simp
  | n + 1, x :: a, y :: b, h, ha, hb, t, k, hk => by
    rcases Int.lt_trichotomy (cmpT x.t y.t) 0 with hc | hc | hc
    · have ih := comb_mom h0 n a (y :: b) (by simp at h ⊢; omega) ha.2 hb t k hk
      rw [pairs_lt hc]
      show mom (comb1 op _ ++ combL op _) t k = _
      rw [mom_append, mom_comb1 _ _ hk, ih, rows_cons x, mom_cons]
      show (decide (x.t = t) && op (setOf x.s k) false || op (mom (rows a) t k) (mom (rows (y :: b)) t k)) = op (decide (x.t = t) && setOf x.s k || mom (rows a) t k) (mom (rows (y :: b)) t k)
      by_cases e : x.t = t
      · subst e
        rw [mom_less (up_head ha) k, mom_less (up_all hc hb) k, decide_eq_true rfl, h0]; simp
      · rw [decide_eq_false e]; simp
    · have ih := comb_mom h0 n a b (by simp at h ⊢; omega) ha.2 hb.2 t k hk
      rw [pairs_eq hc]
      have exy := (cmpT_is.eq _ _).1 hc
      show mom (comb1 op _ ++ combL op _) t k = _
      rw [mom_append, mom_comb1 _ _ hk, ih, rows_cons x, mom_cons, rows_cons y, mom_cons]
      show (decide (x.t = t) && op (setOf x.s k) (setOf y.s k) || op (mom (rows a) t k) (mom (rows b) t k)) = op (decide (x.t = t) && setOf x.s k || mom (rows a) t k) (decide (y.t = t) && setOf y.s k || mom (rows b) t k)
      by_cases e : x.t = t
      · subst e
        rw [mom_less (up_head ha) k, exy, mom_less (up_head hb) k, decide_eq_true rfl, h0]; simp
      · rw [decide_eq_false e, decide_eq_false (by rw [← exy]; exact e)]; simp
    · have hc' : cmpT y.t x.t < 0 := by have := cmpT_is.anti x.t y.t; omega
      have ih := comb_mom h0 n (x :: a) b (by simp at h ⊢; omega) ha hb.2 t k hk
      rw [pairs_gt hc]
      show mom (comb1 op _ ++ combL op _) t k = _
      rw [mom_append, mom_comb1 _ _ hk, ih, rows_cons y, mom_cons]
      show (decide (y.t = t) && op false (setOf y.s k) || op (mom (rows (x :: a)) t k) (mom (rows b) t k)) = op (mom (rows (x :: a)) t k) (decide (y.t = t) && setOf y.s k || mom (rows b) t k)
      by_cases e : y.t = t
      · subst e
        rw [mom_less (up_head hb) k, mom_less (up_all hc' ha) k, decide_eq_true rfl, h0]; simp
      · rw [decide_eq_false e]; simp
theorem pairs_from : ∀ (n : Nat) (a b : List RR), a.length + b.length ≤ n → ∀ p ∈ pairsL a b, (p.1 ∈ a ∨ ∃ y ∈ b, p.1 = argsRow y) ∧ (p.2 ∈ b ∨ p.2 = noRow)
  | _, [], [], _, p, hp => by rw [pairs_nil] at hp; cases hp
  | 0, x :: a, b, h, _, _ => by simp at h
  | 0, [], y :: b, h, _, _ => by simp at h
  | n + 1, x :: a, [], h, p, hp => by
    rw [pairs_left] at hp
    rcases List.mem_cons.1 hp with rfl | hp
    · exact ⟨.inl (by simp), .inr rfl⟩
    · obtain ⟨h1, h2⟩ := pairs_from n a [] (by simp at h ⊢; omega) p hp
      exact ⟨h1.imp (fun h => by simp [h]) id, h2⟩
  | n + 1, [], y :: b, h, p, hp => by
    rw [pairs_right] at hp
    rcases List.mem_cons.1 hp with rfl | hp
    · exact ⟨.inr ⟨y, by simp, rfl⟩, .inl (by simp)⟩
    · obtain ⟨h1, h2⟩ := pairs_from n [] b (by simp at h ⊢; omega) p hp
      exact ⟨h1.imp id (fun ⟨y, hy, e⟩ => ⟨y, by simp [hy], e⟩), h2.imp (fun h => by simp [h]) id⟩
  | n + 1, x :: a, y :: b, h, p, hp => by
    rcases Int.lt_trichotomy (cmpT x.t y.t) 0 with hc | hc | hc
    · rw [pairs_lt hc] at hp
      rcases List.mem_cons.1 hp with rfl | hp
      · exact ⟨.inl (by simp), .inr rfl⟩
      · obtain ⟨h1, h2⟩ := pairs_from n a (y :: b) (by simp at h ⊢; omega) p hp
        exact ⟨h1.imp (fun h => by simp [h]) id, h2⟩
    · rw [pairs_eq hc] at hp
      rcases List.mem_cons.1 hp with rfl | hp
      · exact ⟨.inl (by simp), .inl (by simp)⟩
      · obtain ⟨h1, h2⟩ := pairs_from n a b (by simp at h ⊢; omega) p hp
        exact ⟨h1.imp (fun h => by simp [h]) (fun ⟨y, hy, e⟩ => ⟨y, by simp [hy], e⟩), h2.imp (fun h => by simp [h]) id⟩
    · rw [pairs_gt hc] at hp
      rcases List.mem_cons.1 hp with rfl | hp
      · exact ⟨.inr ⟨y, by simp, rfl⟩, .inl (by simp)⟩
      · obtain ⟨h1, h2⟩ := pairs_from n (x :: a) b (by simp at h ⊢; omega) p hp
        exact ⟨h1.imp id (fun ⟨y, hy, e⟩ => ⟨y, by simp [hy], e⟩), h2.imp (fun h => by simp [h]) id⟩
theorem pairs_mem {a b : List RR} {p : RR × RR} (h : p ∈ pairsL a b) : (p.1 ∈ a ∨ ∃ y ∈ b, p.1 = argsRow y) ∧ (p.2 ∈ b ∨ p.2 = noRow) := pairs_from _ a b (Nat.le_refl _) p h
theorem pairs_tuple {a b : List RR} {p : RR × RR} (h : p ∈ pairsL a b) : ∃ x, (x ∈ a ∨ x ∈ b) ∧ p.1.t = x.t := by
  rcases (pairs_mem h).1 with h | ⟨y, hy, e⟩
  · exact ⟨_, .inl h, rfl⟩
  · exact ⟨y, .inr hy, by rw [e]; rfl⟩
theorem comb_tuple {a b : List RR} {y : Rw} (h : y ∈ combL op (pairsL a b)) : ∃ x, (x ∈ a ∨ x ∈ b) ∧ y.1 = x.t := by
  obtain ⟨p, hp, hy⟩ := List.mem_flatMap.1 h
  obtain ⟨x, hx, e⟩ := pairs_tuple hp
  unfold comb1 at hy
  split at hy
  · cases hy
  · simp at hy; subst hy; exact ⟨x, hx, e⟩
theorem comb_ok {l : List (RR × RR)} {y : Rw} (h : y ∈ combL op l) : OkW y.2 := by
  obtain ⟨p, hp, hy⟩ := List.mem_flatMap.1 h
  unfold comb1 at hy
  split at hy
  · cases hy
  · rename_i h0; simp at hy; subst hy; exact okW_canon h0
theorem up_comb1 {t : Tp} {p : RR × RR} {l : List Rw} (hp : p.1.t = t) (hl : Up l) (hx : ∀ y ∈ l, cmpT t y.1 < 0) : Up (comb1 op p ++ l) := by
  unfold comb1
  split
  · exact hl
  · exact ⟨fun y hy => by rw [hp]; exact hx y hy, hl⟩
theorem comb_up : ∀ (n : Nat) (a b : List RR), a.length + b.length ≤ n → Up (rows a) → Up (rows b) → Up (combL op (pairsL a b))
  | _, [], [], _, _, _ => by rw [pairs_nil]; trivial
  | 0, x :: a, b, h, _, _ => by simp at h
  | 0, [], y :: b, h, _, _ => by simp at h
  | n + 1, x :: a, [], h, ha, hb => by
    rw [pairs_left]
    refine up_comb1 (t := x.t) rfl (comb_up n a [] (by simp at h ⊢; omega) ha.2 hb) fun y hy => ?_
    obtain ⟨z, hz, e⟩ := comb_tuple hy
    rw [e]
    rcases hz with hz | hz
    · exact up_head ha z hz
    · cases hz
  | n + 1, [], y :: b, h, ha, hb => by
    rw [pairs_right]
    refine up_comb1 (t := y.t) rfl (comb_up n [] b (by simp at h ⊢; omega) ha hb.2) fun z hy => ?_
    obtain ⟨z, hz, e⟩ := comb_tuple hy
    rw [e]
    rcases hz with hz | hz
    · cases hz
    · exact up_head hb z hz
  | n + 1, x :: a, y :: b, h, ha, hb => by
    rcases Int.lt_trichotomy (cmpT x.t y.t) 0 with hc | hc | hc
    · rw [pairs_lt hc]
      refine up_comb1 (t := x.t) rfl (comb_up n a (y :: b) (by simp at h ⊢; omega) ha.2 hb) fun z hy => ?_
      obtain ⟨z, hz, e⟩ := comb_tuple hy
      rw [e]
      rcases hz with hz | hz
      · exact up_head ha z hz
      · exact up_all hc hb z hz
    · rw [pairs_eq hc]
      refine up_comb1 (t := x.t) rfl (comb_up n a b (by simp at h ⊢; omega) ha.2 hb.2) fun z hy => ?_
      obtain ⟨z, hz, e⟩ := comb_tuple hy
      rw [e]
      rcases hz with hz | hz
      · exact up_head ha z hz
      · rw [(cmpT_is.eq _ _).1 hc]; exact up_head hb z hz
    · have hc' : cmpT y.t x.t < 0 := by have := cmpT_is.anti x.t y.t; omega
      rw [pairs_gt hc]
      refine up_comb1 (t := y.t) rfl (comb_up n (x :: a) b (by simp at h ⊢; omega) ha hb.2) fun z hy => ?_
      obtain ⟨z, hz, e⟩ := comb_tuple hy
      rw [e]
      rcases hz with hz | hz
      · exact up_all hc' ha z hz
      · exact up_head hb z hz
theorem pairs_len : ∀ (n : Nat) (a b : List RR), a.length + b.length ≤ n → (pairsL a b).length ≤ a.length + b.length
  | _, [], [], _ => by rw [pairs_nil]; simp
  | 0, x :: a, b, h => by simp at h
  | 0, [], y :: b, h => by simp at h
  | n + 1, x :: a, [], h => by
    rw [pairs_left]; have := pairs_len n a [] (by simp at h ⊢; omega); simp at this ⊢; omega
  | n + 1, [], y :: b, h => by
    rw [pairs_right]; have := pairs_len n [] b (by simp at h ⊢; omega); simp at this ⊢; omega
  | n + 1, x :: a, y :: b, h => by
    rcases Int.lt_trichotomy (cmpT x.t y.t) 0 with hc | hc | hc
    · rw [pairs_lt hc]; have := pairs_len n a (y :: b) (by simp at h ⊢; omega); simp at this ⊢; omega
    · rw [pairs_eq hc]; have := pairs_len n a b (by simp at h ⊢; omega); simp at this ⊢; omega
    · rw [pairs_gt hc]; have := pairs_len n (x :: a) b (by simp at h ⊢; omega); simp at this ⊢; omega
end
/-- The result of an operation on two relations. -/
structure OpOf (op : Bool → Bool → Bool) (xs ys zs : List RR) : Prop where
  can : IsCan (rows zs)
  mom : ∀ t k, k < 64 → mom (rows zs) t k = op (mom (rows xs) t k) (mom (rows ys) t k)
  sml : ∀ n m, Sml n xs → Sml m ys → Sml (n + m) zs
theorem opOf_comb {op : Bool → Bool → Bool} (h0 : op false false = false) {xs ys al bl out : List RR} (ha : CanOf xs al) (hb : CanOf ys bl) (ho : rows out = combL op (pairsL al bl)) : OpOf op xs ys out := by
  refine ⟨?_, fun t k hk => ?_, fun n m hn hm => ?_⟩
  · rw [ho]
    exact ⟨comb_up _ al bl (Nat.le_refl _) ha.can.1 hb.can.1, fun y hy => comb_ok hy⟩
  · rw [ho, comb_mom h0 _ al bl (Nat.le_refl _) ha.can.1 hb.can.1 t k hk, ha.mom t k hk, hb.mom t k hk]
  · have s1 := ha.sml n hn
    have s2 := hb.sml m hm
    refine ⟨?_, fun z hz => ?_⟩
    · have h1 : out.length = (combL op (pairsL al bl)).length := by rw [← ho, rows_length]
      have h2 := pairs_len _ al bl (Nat.le_refl _)
      have h3 : (combL op (pairsL al bl)).length ≤ (pairsL al bl).length := by
        unfold combL
        generalize pairsL al bl = l
        induction l with
        | nil => simp
        | cons p l ih =>
          rw [List.flatMap_cons, List.length_append, List.length_cons]
          have : (comb1 op p).length ≤ 1 := by unfold comb1; split <;> simp
          omega
      have := s1.len; have := s2.len; omega
    · have hz2 : z.rw ∈ combL op (pairsL al bl) := by rw [← ho]; exact mem_rows.2 ⟨z, hz, rfl⟩
      obtain ⟨x, hx, e⟩ := comb_tuple hz2
      have hw := comb_ok hz2
      refine ⟨?_, ?_⟩
      · have e' : z.t = x.t := e
        rw [e']
        rcases hx with hx | hx
        · exact (s1.each x hx).1
        · exact (s2.each x hx).1
      · have hw' : OkW z.s := hw
        rw [← hw'.2]
        exact Nat.le_trans (canon_le _) (by omega)
end Go.Proofs.YtdibijhaiaiifaaDoor
