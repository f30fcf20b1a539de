/- Finite lattices in plain Lean: closures, least upper bounds, and what the statements of layer 3 say of them. -/
namespace Go.Proofs.YtkjlflmcojmfgaaDoor
/-! ### The closure -/
abbrev Rl2 := Nat → Nat → Bool
/-- One pass: paths through k. -/
def pass (k : Nat) (o : Rl2) : Rl2 := fun a b => o a b || (o a k && o k b)
def warsh : Nat → Rl2 → Rl2
  | 0, o => o
  | k + 1, o => pass k (warsh k o)
theorem warsh_le {o : Rl2} {a b : Nat} (h : o a b = true) : ∀ k, warsh k o a b = true
  | 0 => h
  | k + 1 => by simp [warsh, pass, warsh_le h k]
theorem warsh_closed {o : Rl2} : ∀ {k j a b : Nat}, j < k → warsh k o a j = true → warsh k o j b = true → warsh k o a b = true
  | 0, _, _, _, h, _, _ => by omega
  | k + 1, j, a, b, h, h1, h2 => by
    simp only [warsh, pass, Bool.or_eq_true, Bool.and_eq_true] at h1 h2 ⊢
    rcases Nat.lt_or_ge j k with hj | hj
    · rcases h1 with h1 | ⟨h1, h1'⟩
      · rcases h2 with h2 | ⟨h2, h2'⟩
        · exact .inl (warsh_closed hj h1 h2)
        · exact .inr ⟨warsh_closed hj h1 h2, h2'⟩
      · rcases h2 with h2 | ⟨h2, h2'⟩
        · exact .inr ⟨h1, warsh_closed hj h1' h2⟩
        · exact .inr ⟨h1, h2'⟩
    · obtain rfl : j = k := by omega
      have h1' : warsh j o a j = true := by
        rcases h1 with h1 | ⟨h1, _⟩ <;> exact h1
      have h2' : warsh j o j b = true := by
        rcases h2 with h2 | ⟨_, h2⟩ <;> exact h2
      exact .inr ⟨h1', h2'⟩
/-- What the closure is least among. -/
theorem warsh_least {o : Rl2} {p : Nat → Nat → Prop} (hp : ∀ a b, o a b = true → p a b) (ht : ∀ a b c, p a b → p b c → p a c) : ∀ k a b, warsh k o a b = true → p a b
  | 0, a, b, h => hp a b h
  | k + 1, a, b, h => by
    simp only [warsh, pass, Bool.or_eq_true, Bool.and_eq_true] at h
    rcases h with h | ⟨h, h'⟩
    · exact warsh_least hp ht k a b h
    · exact ht a k b (warsh_least hp ht k a k h) (warsh_least hp ht k k b h')
/-- The pairs that an order starts with. -/
def start (n : Nat) (cs : List (Int × Int)) : Rl2 := fun a b => (decide (a = b) && decide (a < n)) || cs.any fun c => decide (c.1 = a) && decide (c.2 = b)
def closure (n : Nat) (cs : List (Int × Int)) : Rl2 := warsh n (start n cs)
def InRange (n : Nat) (cs : List (Int × Int)) : Prop := ∀ c ∈ cs, 0 ≤ c.1 ∧ c.1 < n ∧ 0 ≤ c.2 ∧ c.2 < n
theorem start_iff {n : Nat} {cs : List (Int × Int)} {a b : Nat} : start n cs a b = true ↔ (a = b ∧ a < n) ∨ ((a : Int), (b : Int)) ∈ cs := by
  unfold start
  simp only [Bool.or_eq_true, Bool.and_eq_true, decide_eq_true_eq, List.any_eq_true]
  constructor
  · rintro (h | ⟨⟨x, y⟩, hm, h1, h2⟩)
    · exact .inl h
    · dsimp only at h1 h2
      subst h1 h2
      exact .inr hm
  · rintro (h | h)
    · exact .inl h
    · exact .inr ⟨_, h, rfl, rfl⟩
theorem start_lt {n : Nat} {cs : List (Int × Int)} (hr : InRange n cs) {a b : Nat} (h : start n cs a b = true) : a < n ∧ b < n := by
  rcases start_iff.1 h with ⟨rfl, h'⟩ | h'
  · exact ⟨h', h'⟩
  · have := hr _ h'; simp at this; omega
theorem clo_lt {n : Nat} {cs : List (Int × Int)} (hr : InRange n cs) {a b : Nat} (h : closure n cs a b = true) : a < n ∧ b < n :=
  warsh_least (p := fun a b => a < n ∧ b < n) (fun _ _ h => start_lt hr h) (fun _ _ _ h k => ⟨h.1, k.2⟩) n a b h
theorem clo_refl {n : Nat} {cs : List (Int × Int)} {a : Nat} (h : a < n) : closure n cs a a = true := warsh_le (start_iff.2 (.inl ⟨rfl, h⟩)) n
theorem clo_cover {n : Nat} {cs : List (Int × Int)} {a b : Nat} (h : ((a : Int), (b : Int)) ∈ cs) : closure n cs a b = true := warsh_le (start_iff.2 (.inr h)) n
theorem clo_trans {n : Nat} {cs : List (Int × Int)} (hr : InRange n cs) {a b c : Nat} (h : closure n cs a b = true) (k : closure n cs b c = true) : closure n cs a c = true :=
  warsh_closed (clo_lt hr h).2 h k
/-- Each pair is an equality, a cover, or goes through an element between. -/
theorem clo_split {n : Nat} {cs : List (Int × Int)} (hr : InRange n cs) {a b : Nat} (h : closure n cs a b = true) :
    a = b ∨ ((a : Int), (b : Int)) ∈ cs ∨ ∃ c, c < n ∧ c ≠ a ∧ c ≠ b ∧ closure n cs a c = true ∧ closure n cs c b = true := by
  have key := warsh_least (o := start n cs) (p := fun a b => a < n ∧ b < n ∧ closure n cs a b = true ∧ (a = b ∨ ((a : Int), (b : Int)) ∈ cs ∨ ∃ c, c < n ∧ c ≠ a ∧ c ≠ b ∧ closure n cs a c = true ∧ closure n cs c b = true))
    (fun a b h => by
      refine ⟨(start_lt hr h).1, (start_lt hr h).2, warsh_le h n, ?_⟩
      rcases start_iff.1 h with ⟨rfl, h⟩ | h
      · exact .inl rfl
      · exact .inr (.inl h))
    (fun a b c h k => by
      obtain ⟨h1, h2, h3, h4⟩ := h
      obtain ⟨k1, k2, k3, k4⟩ := k
      refine ⟨h1, k2, clo_trans hr h3 k3, ?_⟩
      by_cases e1 : b = a
      · subst e1; exact k4
      · by_cases e2 : b = c
        · subst e2; exact h4
        · exact .inr (.inr ⟨b, h2, e1, e2, h3, k3⟩)) n a b h
  exact key.2.2.2
/-! ### Least elements and least upper bounds -/
def leastOf (n : Nat) (o : Rl2) (S : Nat → Bool) : Int :=
  match (List.range n).find? (fun a => S a && (List.range n).all fun b => !S b || o a b) with
  | some a => a
  | none => -1
structure Lat (n : Nat) (o : Rl2) : Prop where
  lt : ∀ {a b}, o a b = true → a < n ∧ b < n
  refl : ∀ {a}, a < n → o a a = true
  trans : ∀ {a b c}, o a b = true → o b c = true → o a c = true
  anti : ∀ {a b}, o a b = true → o b a = true → a = b
  bot : ∃ z, z < n ∧ ∀ b, b < n → o z b = true
  join : ∀ {a b}, a < n → b < n → ∃ j, j < n ∧ o a j = true ∧ o b j = true ∧ ∀ c, c < n → o a c = true → o b c = true → o j c = true
theorem leastOf_some {n : Nat} {o : Rl2} {S : Nat → Bool} (anti : ∀ {a b}, o a b = true → o b a = true → a = b) {a : Nat} (h : a < n) (hs : S a = true) (hl : ∀ b, b < n → S b = true → o a b = true) : leastOf n o S = a := by
  unfold leastOf
  have hp : (S a && (List.range n).all fun b => !S b || o a b) = true := by
    simp only [Bool.and_eq_true, List.all_eq_true, List.mem_range, Bool.or_eq_true, Bool.not_eq_true']
    refine ⟨hs, fun b hb => ?_⟩
    cases hsb : S b
    · exact .inl rfl
    · exact .inr (hl b hb hsb)
  cases hf : (List.range n).find? (fun a => S a && (List.range n).all fun b => !S b || o a b) with
  | none => exact absurd hp (List.find?_eq_none.1 hf a (List.mem_range.2 h))
  | some c =>
    have hc := List.find?_some hf
    have hcn := List.mem_range.1 (List.mem_of_find?_eq_some hf)
    simp only [Bool.and_eq_true, List.all_eq_true, List.mem_range, Bool.or_eq_true, Bool.not_eq_true'] at hc
    have h1 : o c a = true := by
      rcases hc.2 a h with h' | h'
      · rw [hs] at h'; cases h'
      · exact h'
    rw [anti h1 (hl c hcn hc.1)]
theorem leastOf_nonneg {n : Nat} {o : Rl2} {S : Nat → Bool} (h : 0 ≤ leastOf n o S) : ∃ a, leastOf n o S = (a : Nat) ∧ a < n ∧ S a = true ∧ ∀ b, b < n → S b = true → o a b = true := by
  unfold leastOf at h ⊢
  cases hf : (List.range n).find? (fun a => S a && (List.range n).all fun b => !S b || o a b) with
  | none => rw [hf] at h; simp at h
  | some c =>
    have hc := List.find?_some hf
    have hcn := List.mem_range.1 (List.mem_of_find?_eq_some hf)
    simp only [Bool.and_eq_true, List.all_eq_true, List.mem_range, Bool.or_eq_true, Bool.not_eq_true'] at hc
    refine ⟨c, rfl, hcn, hc.1, fun b hb hs => ?_⟩
    rcases hc.2 b hb with h' | h'
    · rw [hs] at h'; cases h'
    · exact h'
theorem find_congr {α : Type} {p q : α → Bool} : ∀ (l : List α), (∀ a ∈ l, p a = q a) → l.find? p = l.find? q
  | [], _ => rfl
  | x :: r, h => by rw [List.find?_cons, List.find?_cons, h x (by simp), find_congr r fun a ha => h a (by simp [ha])]
theorem leastOf_congr {n : Nat} {o : Rl2} {S T : Nat → Bool} (h : ∀ a, a < n → S a = T a) : leastOf n o S = leastOf n o T := by
  unfold leastOf
  have e : (List.range n).find? (fun a => S a && (List.range n).all fun b => !S b || o a b) = (List.range n).find? (fun a => T a && (List.range n).all fun b => !T b || o a b) := by
    refine find_congr _ fun a ha => ?_
    rw [h a (List.mem_range.1 ha)]
    congr 1
    rw [Bool.eq_iff_iff]
    simp only [List.all_eq_true, List.mem_range]
    exact ⟨fun k b hb => by rw [← h b hb]; exact k b hb, fun k b hb => by rw [h b hb]; exact k b hb⟩
  rw [e]
theorem nodup_le {α : Type} [DecidableEq α] : ∀ (l m : List α), l.Nodup → (∀ x ∈ l, x ∈ m) → l.length ≤ m.length
  | [], _, _, _ => by simp
  | x :: r, m, hn, hs => by
    have hn := List.nodup_cons.1 hn
    have h1 := nodup_le r (m.erase x) hn.2 fun y hy => (List.mem_erase_of_ne (fun (e : y = x) => hn.1 (e ▸ hy))).2 (hs y (by simp [hy]))
    have hx := hs x (by simp)
    rw [List.length_erase_of_mem hx] at h1
    have := List.length_pos_of_mem hx
    simp only [List.length_cons]; omega
/-- Whether a relation that has been closed is a lattice's. -/
def good (n : Nat) (o : Rl2) : Bool :=
  decide (0 ≤ leastOf n o fun _ => true) && (List.range n).all fun a => (List.range n).all fun b => !(decide (a ≠ b) && o a b && o b a) && decide (0 ≤ leastOf n o fun c => o a c && o b c)
theorem lat_of_good {n : Nat} {o : Rl2} (lt : ∀ {a b}, o a b = true → a < n ∧ b < n) (refl : ∀ {a}, a < n → o a a = true) (trans : ∀ {a b c}, o a b = true → o b c = true → o a c = true) (h : good n o = true) : Lat n o := by
  unfold good at h
  simp only [Bool.and_eq_true, List.all_eq_true, List.mem_range, decide_eq_true_eq, Bool.not_eq_true'] at h
  obtain ⟨h0, h1⟩ := h
  refine ⟨lt, refl, trans, fun {a b} x y => ?_, ?_, fun {a b} ha hb => ?_⟩
  · have := (h1 a (lt x).1 b (lt x).2).1
    rw [x, y] at this
    simpa using this
  · obtain ⟨z, _, hz, _, hzb⟩ := leastOf_nonneg h0
    exact ⟨z, hz, fun b hb => hzb b hb rfl⟩
  · obtain ⟨j, _, hj, hs, hl⟩ := leastOf_nonneg (h1 a ha b hb).2
    simp only [Bool.and_eq_true] at hs hl
    exact ⟨j, hj, hs.1, hs.2, fun c hc k1 k2 => hl c hc ⟨k1, k2⟩⟩
/-- The least upper bound of some elements; -1 if there is none. -/
def lub (n : Nat) (o : Rl2) (L : List Nat) : Int := leastOf n o fun c => L.all fun a => o a c
def IsLub (n : Nat) (o : Rl2) (L : List Nat) (j : Nat) : Prop := j < n ∧ (∀ a ∈ L, o a j = true) ∧ ∀ c, c < n → (∀ a ∈ L, o a c = true) → o j c = true
/-- Lists with the same elements have the same bound. -/
theorem lub_same {n : Nat} {o : Rl2} {L M : List Nat} (e : ∀ a, a ∈ L ↔ a ∈ M) : lub n o L = lub n o M := by
  unfold lub
  congr 1
  funext c
  rw [Bool.eq_iff_iff, List.all_eq_true, List.all_eq_true]
  exact ⟨fun k a ha => k a ((e a).2 ha), fun k a ha => k a ((e a).1 ha)⟩
theorem join_iff {n : Nat} {o : Rl2} {a b j : Nat} : IsLub n o [a, b] j ↔ j < n ∧ o a j = true ∧ o b j = true ∧ ∀ c, c < n → o a c = true → o b c = true → o j c = true := by
  unfold IsLub
  simp only [List.mem_cons, List.not_mem_nil, or_false, forall_eq_or_imp, forall_eq]
  constructor
  · rintro ⟨h1, ⟨h2, h3⟩, h4⟩; exact ⟨h1, h2, h3, fun c hc x y => h4 c hc ⟨x, y⟩⟩
  · rintro ⟨h1, h2, h3, h4⟩; exact ⟨h1, ⟨h2, h3⟩, fun c hc x => h4 c hc x.1 x.2⟩
section
variable {n : Nat} {o : Rl2} (h : Lat n o)
include h
theorem Lat.lub_eq {L : List Nat} {j : Nat} (k : IsLub n o L j) : lub n o L = j :=
  leastOf_some h.anti k.1 (List.all_eq_true.2 k.2.1) fun c hc hs => k.2.2 c hc (List.all_eq_true.1 hs)
theorem Lat.lub_ex : ∀ {L : List Nat}, (∀ a ∈ L, a < n) → ∃ j, IsLub n o L j
  | [], _ => by
    obtain ⟨z, hz, hb⟩ := h.bot
    exact ⟨z, hz, by simp, fun c hc _ => hb c hc⟩
  | a :: r, hl => by
    obtain ⟨i, hi, hi1, hi2⟩ := Lat.lub_ex (L := r) fun x hx => hl x (by simp [hx])
    obtain ⟨j, hj, h1, h2, h3⟩ := h.join (hl a (by simp)) hi
    refine ⟨j, hj, fun x hx => ?_, fun c hc k => ?_⟩
    · rcases List.mem_cons.1 hx with rfl | hx
      · exact h1
      · exact h.trans (hi1 x hx) h2
    · exact h3 c hc (k a (by simp)) (hi2 c hc fun x hx => k x (by simp [hx]))
theorem Lat.lub_is {L : List Nat} (hl : ∀ a ∈ L, a < n) : ∃ j, lub n o L = (j : Nat) ∧ IsLub n o L j := by
  obtain ⟨j, hj⟩ := h.lub_ex hl
  exact ⟨j, h.lub_eq hj, hj⟩
theorem Lat.unique {L : List Nat} {i j : Nat} (a : IsLub n o L i) (b : IsLub n o L j) : i = j :=
  h.anti (a.2.2 j b.1 b.2.1) (b.2.2 i a.1 a.2.1)
/-- A bound, and one more element. -/
theorem Lat.lub_snoc {L : List Nat} {i a j : Nat} (k : IsLub n o L i) (m : IsLub n o [i, a] j) : IsLub n o (L ++ [a]) j := by
  refine ⟨m.1, fun x hx => ?_, fun c hc hx => m.2.2 c hc fun x hx' => ?_⟩
  · rcases List.mem_append.1 hx with hx | hx
    · exact h.trans (k.2.1 x hx) (m.2.1 i (by simp))
    · exact m.2.1 x (by simp at hx; simp [hx])
  · rcases List.mem_cons.1 hx' with e | hx'
    · rw [e]; exact k.2.2 c hc fun y hy => hx y (by simp [hy])
    · obtain rfl : x = a := by simpa using hx'
      exact hx x (by simp)
theorem Lat.join_is {a b : Nat} (ha : a < n) (hb : b < n) : ∃ j, lub n o [a, b] = (j : Nat) ∧ IsLub n o [a, b] j := h.lub_is (by simp [ha, hb])
/-- a is at most b exactly if their join is b. -/
theorem Lat.leq_join {a b j : Nat} (hb : b < n) (m : IsLub n o [a, b] j) : o a b = true ↔ j = b := by
  obtain ⟨h1, h2, h3, h4⟩ := join_iff.1 m
  constructor
  · intro k; exact h.anti (h4 b hb k (h.refl hb)) h3
  · rintro rfl; exact h2
theorem Lat.join_assoc {a b c i j k l : Nat} (h1 : IsLub n o [a, b] i) (h2 : IsLub n o [i, c] j) (h3 : IsLub n o [b, c] k) (h4 : IsLub n o [a, k] l) : j = l := by
  obtain ⟨x1, x2, x3, x4⟩ := join_iff.1 h1
  obtain ⟨y1, y2, y3, y4⟩ := join_iff.1 h2
  obtain ⟨z1, z2, z3, z4⟩ := join_iff.1 h3
  obtain ⟨u1, u2, u3, u4⟩ := join_iff.1 h4
  exact h.anti (y4 l u1 (x4 l u1 u2 (h.trans z2 u3)) (h.trans z3 u3)) (u4 j y1 (h.trans x2 y2) (z4 j y1 (h.trans x3 y2) y3))
end
/-! ### Irreducible elements -/
/-- The elements below a, but a. -/
def under (n : Nat) (o : Rl2) (a : Nat) : List Nat := (List.range n).filter fun b => decide (b ≠ a) && o b a
def irr (n : Nat) (o : Rl2) : List Nat := (List.range n).filter fun a => decide (lub n o (under n o a) ≠ (a : Int))
theorem mem_under {n : Nat} {o : Rl2} {a b : Nat} : b ∈ under n o a ↔ b < n ∧ b ≠ a ∧ o b a = true := by simp [under]
theorem mem_irr {n : Nat} {o : Rl2} {a : Nat} : a ∈ irr n o ↔ a < n ∧ lub n o (under n o a) ≠ (a : Int) := by simp [irr]
section
variable {n : Nat} {o : Rl2} (h : Lat n o)
include h
theorem Lat.irr_above : ∀ (m a : Nat), (under n o a).length ≤ m → a < n → ∀ c, c < n → (∀ b ∈ irr n o, o b a = true → o b c = true) → o a c = true := by
  intro m
  induction m with
  | zero =>
    intro a hm ha c hc hb
    by_cases hi : a ∈ irr n o
    · exact hb a hi (h.refl ha)
    · have e : under n o a = [] := List.eq_nil_of_length_eq_zero (by omega)
      have : lub n o (under n o a) = (a : Int) := Classical.byContradiction fun k => hi (mem_irr.2 ⟨ha, k⟩)
      obtain ⟨j, hj, hl⟩ := h.lub_is (L := under n o a) fun x hx => (mem_under.1 hx).1
      obtain rfl : j = a := by omega
      exact hl.2.2 c hc (by rw [e]; simp)
  | succ m ih =>
    intro a hm ha c hc hb
    by_cases hi : a ∈ irr n o
    · exact hb a hi (h.refl ha)
    · have : lub n o (under n o a) = (a : Int) := Classical.byContradiction fun k => hi (mem_irr.2 ⟨ha, k⟩)
      obtain ⟨j, hj, hl⟩ := h.lub_is (L := under n o a) fun x hx => (mem_under.1 hx).1
      obtain rfl : j = a := by omega
      refine hl.2.2 c hc fun x hx => ?_
      obtain ⟨x1, x2, x3⟩ := mem_under.1 hx
      refine ih x ?_ x1 c hc fun b hbi hbx => hb b hbi (h.trans hbx x3)
      have hsub : (under n o x).length < (under n o j).length := by
        have hs : ∀ y ∈ under n o x, y ∈ (under n o j).erase x := by
          intro y hy
          obtain ⟨y1, y2, y3⟩ := mem_under.1 hy
          have hyj : y ∈ under n o j := mem_under.2 ⟨y1, fun e => x2 (h.anti x3 (e ▸ y3)), h.trans y3 x3⟩
          exact (List.mem_erase_of_ne y2).2 hyj
        have hnd : (under n o x).Nodup := List.Nodup.sublist List.filter_sublist List.nodup_range
        have h1 : (under n o x).length ≤ ((under n o j).erase x).length := nodup_le _ _ hnd hs
        rw [List.length_erase_of_mem hx] at h1
        have : 0 < (under n o j).length := List.length_pos_of_mem hx
        omega
      omega
/-- Every element is the least upper bound of the irreducible ones that are at most it. -/
theorem Lat.irr_lub {a : Nat} (ha : a < n) {L : List Nat} (hL : ∀ b, b ∈ L ↔ b ∈ irr n o ∧ o b a = true) : IsLub n o L a :=
  ⟨ha, fun b hb => ((hL b).1 hb).2, fun c hc k => h.irr_above _ a (Nat.le_refl _) ha c hc fun b hb hba => k b ((hL b).2 ⟨hb, hba⟩)⟩
theorem Lat.irr_others {a : Nat} (ha : a ∈ irr n o) {L : List Nat} (hL : ∀ b, b ∈ L ↔ b ∈ irr n o ∧ o b a = true ∧ b ≠ a) : lub n o L ≠ (a : Int) := by
  obtain ⟨han, hne⟩ := mem_irr.1 ha
  intro e
  obtain ⟨j, hj, hl⟩ := h.lub_is (L := under n o a) fun x hx => (mem_under.1 hx).1
  obtain ⟨i, hi, hm⟩ := h.lub_is (L := L) fun x hx => (mem_irr.1 ((hL x).1 hx).1).1
  obtain rfl : i = a := by omega
  have h1 : o i j = true := hm.2.2 j hl.1 fun b hb => by
    obtain ⟨b1, b2, b3⟩ := (hL b).1 hb
    exact hl.2.1 b (mem_under.2 ⟨(mem_irr.1 b1).1, b3, b2⟩)
  have h2 : o j i = true := hl.2.2 i han fun b hb => (mem_under.1 hb).2.2
  exact hne (by rw [hj, h.anti h2 h1])
end
/-! ### Functions -/
/-- The least monotone function that is at least a table. -/
def upTo (n : Nat) (o : Rl2) (t : Nat → Nat) (a : Nat) : List Nat := ((List.range n).filter fun b => o b a).map t
theorem mem_upTo {n : Nat} {o : Rl2} {t : Nat → Nat} {a x : Nat} : x ∈ upTo n o t a ↔ ∃ b, b < n ∧ o b a = true ∧ t b = x := by
  simp [upTo, and_assoc]
def IsClosed (n : Nat) (o : Rl2) (t f : Nat → Nat) : Prop := ∀ a, a < n → IsLub n o (upTo n o t a) (f a)
def Mono (o : Rl2) (f : Nat → Nat) : Prop := ∀ a b, o a b = true → o (f a) (f b) = true
section
variable {n : Nat} {o : Rl2} (h : Lat n o)
include h
theorem Lat.closed_mono {t f : Nat → Nat} (k : IsClosed n o t f) : Mono o f := by
  intro a b hab
  obtain ⟨ha, hb⟩ := h.lt hab
  refine (k a ha).2.2 (f b) (k b hb).1 fun x hx => ?_
  obtain ⟨c, hc, hca, rfl⟩ := mem_upTo.1 hx
  exact (k b hb).2.1 _ (mem_upTo.2 ⟨c, hc, h.trans hca hab, rfl⟩)
theorem Lat.mono_closed {t f : Nat → Nat} (k : IsClosed n o t f) (ht : ∀ a, a < n → t a < n) : Mono o t ↔ ∀ a, a < n → t a = f a := by
  constructor
  · intro hm a ha
    refine h.anti ((k a ha).2.1 _ (mem_upTo.2 ⟨a, ha, h.refl ha, rfl⟩)) ((k a ha).2.2 (t a) (ht a ha) fun x hx => ?_)
    obtain ⟨c, hc, hca, rfl⟩ := mem_upTo.1 hx
    exact hm c a hca
  · intro e a b hab
    obtain ⟨ha, hb⟩ := h.lt hab
    rw [e a ha, e b hb]
    exact h.closed_mono k a b hab
end
theorem mono_join {n : Nat} {o : Rl2} {f : Nat → Nat} (hm : Mono o f) {a b i j : Nat} (hi : IsLub n o [f a, f b] i) (hj : IsLub n o [a, b] j) (hf : f j < n) : o i (f j) = true := by
  obtain ⟨x1, x2, x3, x4⟩ := join_iff.1 hi
  obtain ⟨y1, y2, y3, y4⟩ := join_iff.1 hj
  exact x4 _ hf (hm _ _ y2) (hm _ _ y3)
/-! ### Other names -/
theorem good_of_lat {n : Nat} {o : Rl2} (h : Lat n o) : good n o = true := by
  unfold good
  simp only [Bool.and_eq_true, List.all_eq_true, List.mem_range, decide_eq_true_eq, Bool.not_eq_true']
  refine ⟨?_, fun a ha b hb => ⟨?_, ?_⟩⟩
  · obtain ⟨z, hz, hb⟩ := h.bot
    rw [leastOf_some h.anti hz rfl fun b hb' _ => hb b hb']; omega
  · cases x : o a b
    · simp
    · cases y : o b a
      · simp
      · simp [h.anti x y]
  · obtain ⟨j, hj, h1, h2, h3⟩ := h.join ha hb
    rw [leastOf_some h.anti hj (by simp [h1, h2]) fun c hc hs => by simp only [Bool.and_eq_true] at hs; exact h3 c hc hs.1 hs.2]; omega
theorem closure_same {n : Nat} {cs ds : List (Int × Int)} (e : ∀ c, c ∈ cs ↔ c ∈ ds) : closure n cs = closure n ds := by
  have : start n cs = start n ds := by
    funext a b
    rw [Bool.eq_iff_iff, start_iff, start_iff, e]
  unfold closure; rw [this]
/-- The new number of an element. -/
def turn (n k a : Nat) : Nat := (a + n - k) % n
theorem turn_lt {n k a : Nat} (h : a < n) : turn n k a < n := Nat.mod_lt _ (by omega)
theorem turn_val {n k a : Nat} (hk : k < n) (ha : a < n) : turn n k a = if k ≤ a then a - k else a + n - k := by
  unfold turn
  split
  · rw [show a + n - k = (a - k) + n by omega, Nat.add_mod_right, Nat.mod_eq_of_lt (by omega)]
  · rw [Nat.mod_eq_of_lt (by omega)]
theorem turn_inj {n k a b : Nat} (hk : k < n) (ha : a < n) (hb : b < n) (h : turn n k a = turn n k b) : a = b := by
  rw [turn_val hk ha, turn_val hk hb] at h
  split at h <;> split at h <;> omega
theorem turn_sur {n k b : Nat} (hk : k < n) (hb : b < n) : ∃ a, a < n ∧ turn n k a = b := by
  by_cases h : b + k < n
  · exact ⟨b + k, h, by rw [turn_val hk h, if_pos (by omega)]; omega⟩
  · exact ⟨b + k - n, by omega, by rw [turn_val hk (by omega), if_neg (by omega)]; omega⟩
def turned (n k : Nat) (cs : List (Int × Int)) : List (Int × Int) := cs.map fun c => ((turn n k c.1.toNat : Int), (turn n k c.2.toNat : Int))
theorem mem_turned {n k : Nat} {cs : List (Int × Int)} (hk : k < n) (hr : InRange n cs) {a b : Nat} (ha : a < n) (hb : b < n) :
    (((turn n k a : Nat) : Int), ((turn n k b : Nat) : Int)) ∈ turned n k cs ↔ ((a : Int), (b : Int)) ∈ cs := by
  unfold turned
  simp only [List.mem_map, Prod.mk.injEq, Prod.exists]
  constructor
  · rintro ⟨x, y, hm, e1, e2⟩
    have := hr _ hm
    dsimp only at this
    have h1 := turn_inj hk (by omega) ha (Int.ofNat_inj.1 e1)
    have h2 := turn_inj hk (by omega) hb (Int.ofNat_inj.1 e2)
    have : (x, y) = ((a : Int), (b : Int)) := by rw [← h1, ← h2]; congr 1 <;> omega
    rw [← this]; exact hm
  · intro hm
    exact ⟨_, _, hm, by simp, by simp⟩
theorem turned_range {n k : Nat} {cs : List (Int × Int)} (hr : InRange n cs) : InRange n (turned n k cs) := by
  intro c hc
  unfold turned at hc
  obtain ⟨x, hx, rfl⟩ := List.mem_map.1 hc
  have := hr x hx
  have h1 := turn_lt (n := n) (k := k) (a := x.1.toNat) (by omega)
  have h2 := turn_lt (n := n) (k := k) (a := x.2.toNat) (by omega)
  dsimp only; omega
theorem turned_clo {n k : Nat} {cs : List (Int × Int)} (hk : k < n) (hr : InRange n cs) {a b : Nat} (ha : a < n) (hb : b < n) : closure n (turned n k cs) (turn n k a) (turn n k b) = closure n cs a b := by
  rw [Bool.eq_iff_iff]
  constructor
  · intro h
    have key := warsh_least (o := start n (turned n k cs)) (p := fun x y => (∀ a b, a < n → b < n → turn n k a = x → turn n k b = y → closure n cs a b = true) ∧ x < n ∧ y < n) (fun x y h => by
      have hlt := start_lt (turned_range hr) h
      refine ⟨fun a b ha hb ea eb => ?_, hlt⟩
      subst ea eb
      rcases start_iff.1 h with ⟨e, _⟩ | hm
      · rw [turn_inj hk ha hb e]; exact clo_refl hb
      · exact clo_cover ((mem_turned hk hr ha hb).1 hm)) (fun x y z h h' => by
      obtain ⟨h1, b1⟩ := h
      obtain ⟨h2, b2⟩ := h'
      obtain ⟨m, hm, e⟩ := turn_sur hk b1.2
      exact ⟨fun a b ha hb ea eb => clo_trans hr (h1 a m ha hm ea e) (h2 m b hm hb e eb), b1.1, b2.2⟩) n _ _ h
    exact key.1 a b ha hb rfl rfl
  · intro h
    have key := warsh_least (o := start n cs) (p := fun x y => (x < n ∧ y < n) ∧ closure n (turned n k cs) (turn n k x) (turn n k y) = true) (fun x y h => by
      have hlt := start_lt hr h
      refine ⟨hlt, ?_⟩
      rcases start_iff.1 h with ⟨e, _⟩ | hm
      · subst e; exact clo_refl (turn_lt hlt.1)
      · exact clo_cover ((mem_turned hk hr hlt.1 hlt.2).2 hm)) (fun x y z h h' => ⟨⟨h.1.1, h'.1.2⟩, clo_trans (turned_range hr) h.2 h'.2⟩) n _ _ h
    exact key.2
theorem lat_clo {n : Nat} {cs : List (Int × Int)} (hr : InRange n cs) (hg : good n (closure n cs) = true) : Lat n (closure n cs) :=
  lat_of_good (clo_lt hr) clo_refl (clo_trans hr) hg
theorem turned_lub {n k : Nat} {cs : List (Int × Int)} (hk : k < n) (hr : InRange n cs) {a b j : Nat} (ha : a < n) (hb : b < n) (h : IsLub n (closure n cs) [a, b] j) :
    IsLub n (closure n (turned n k cs)) [turn n k a, turn n k b] (turn n k j) := by
  obtain ⟨x1, x2, x3, x4⟩ := join_iff.1 h
  refine join_iff.2 ⟨turn_lt x1, (turned_clo hk hr ha x1).trans x2, (turned_clo hk hr hb x1).trans x3, fun c hc h1 h2 => ?_⟩
  obtain ⟨m, hm, rfl⟩ := turn_sur hk hc
  rw [turned_clo hk hr ha hm] at h1
  rw [turned_clo hk hr hb hm] at h2
  rw [turned_clo hk hr x1 hm]
  exact x4 m hm h1 h2
theorem turned_lat {n k : Nat} {cs : List (Int × Int)} (hk : k < n) (hr : InRange n cs) (h : Lat n (closure n cs)) : Lat n (closure n (turned n k cs)) := by
  have hr' := turned_range (k := k) hr
  refine ⟨clo_lt hr', clo_refl, clo_trans hr', fun {a b} x y => ?_, ?_, fun {a b} ha hb => ?_⟩
  · obtain ⟨a', ha', rfl⟩ := turn_sur hk (clo_lt hr' x).1
    obtain ⟨b', hb', rfl⟩ := turn_sur hk (clo_lt hr' x).2
    rw [turned_clo hk hr ha' hb'] at x
    rw [turned_clo hk hr hb' ha'] at y
    rw [h.anti x y]
  · obtain ⟨z, hz, hb⟩ := h.bot
    refine ⟨turn n k z, turn_lt hz, fun b hbn => ?_⟩
    obtain ⟨b', hb', rfl⟩ := turn_sur hk hbn
    rw [turned_clo hk hr hz hb']; exact hb b' hb'
  · obtain ⟨a', ha', rfl⟩ := turn_sur hk ha
    obtain ⟨b', hb', rfl⟩ := turn_sur hk hb
    obtain ⟨j, hj⟩ := h.join ha' hb'
    exact ⟨_, join_iff.1 (turned_lub hk hr ha' hb' (join_iff.2 hj))⟩
end Go.Proofs.YtkjlflmcojmfgaaDoor
