/- Parts Hp, Lp, Lo, Lc, Lm, Ls: words, walks and laws that the claims of this seat share. -/
import Derived.Test.YtdibijhaiaiifaaDoorJ12
import Derived.Test.YtdibijhaiaiifaaDoorJ11
/- The plain facts of the head of the laws of relations: its fixed examples. -/
namespace Go.Proofs.YtdibijhaiaiifaaDoor
open Go.RowKit
theorem short1 (c : UInt8) : [c].length ≤ 9223372036854775807 := by simp
abbrev tA : Tp := pairT [97] (short1 97) 1
abbrev tB : Tp := pairT [98] (short1 98) 2
theorem tAB : cmpT tA tB < 0 := by decide +kernel
theorem tBA : ¬ cmpT tB tA < 0 := by decide +kernel
theorem neAB : tA ≠ tB := fun e => by have := tAB; rw [e, cmpT_is.refl] at this; omega
theorem can_zero : IsCan [] := ⟨trivial, by simp⟩
theorem can_one {t : Tp} {s : List Sp} (h : OkW s) : IsCan [(t, s)] := ⟨⟨by simp, trivial⟩, by simp; exact h⟩
theorem can_two {t u : Tp} {s r : List Sp} (h : cmpT t u < 0) (k : OkW s) (l : OkW r) : IsCan [(t, s), (u, r)] := ⟨⟨by simp; exact h, by simp, trivial⟩, by simp; exact ⟨k, l⟩⟩
theorem ok04 : OkW [(0, 4)] := ⟨by simp, by decide +kernel⟩
theorem ok26 : OkW [(2, 6)] := ⟨by simp, by decide +kernel⟩
theorem ok05 : OkW [(0, 5)] := ⟨by simp, by decide +kernel⟩
theorem ok0124 : OkW [(0, 1), (2, 4)] := ⟨by simp, by decide +kernel⟩
theorem mom1 (t u : Tp) (s : List Sp) (k : Nat) : mom [(t, s)] u k = (decide (t = u) && setOf s k) := by rw [mom_cons, mom_nil, Bool.or_false]
theorem mom2 (t v u : Tp) (s r : List Sp) (k : Nat) : mom [(t, s), (v, r)] u k = ((decide (t = u) && setOf s k) || (decide (v = u) && setOf r k)) := by rw [mom_cons, mom1]
theorem not_both (u : Tp) : (decide (tA = u) && decide (tB = u)) = false := by
  rw [Bool.and_eq_false_iff]
  by_cases h : tA = u
  · exact .inr (decide_eq_false fun e => neAB (h.trans e.symm))
  · exact .inl (decide_eq_false h)
abbrev hR : List Rw := [(tA, [(0, 4)]), (tB, [(2, 6)])]
theorem hR_can : IsCan hR := can_two tAB ok04 ok26
section
variable {xs ys zs : List RR}
theorem fit_can (hx : rows xs = hR) (h : CanOf xs zs) : rows zs = hR := can_ext _ _ h.can hR_can fun t k hk => by rw [h.mom t k hk, hx]
theorem k45 : ∀ k, k < 64 → (setOf [(0, 4)] k || setOf [(4, 5)] k) = setOf [(0, 5)] k := by decide +kernel
theorem k12 : ∀ k, k < 64 → (setOf [(0, 4)] k && !setOf [(1, 2)] k) = setOf [(0, 1), (2, 4)] k := by decide +kernel
theorem f_insert (hx : rows xs = hR) (h : OpOf opU xs [rr tA [(4, 5)]] zs) : rows zs = [(tA, [(0, 5)]), (tB, [(2, 6)])] := by
  refine can_ext _ _ h.can (can_two tAB ok05 ok26) fun t k hk => ?_
  rw [h.mom t k hk, hx, show rows [rr tA [(4, 5)]] = [(tA, [(4, 5)])] from rfl, mom2, mom1, mom2, ← k45 k hk]
  unfold opU
  cases decide (tA = t) <;> cases decide (tB = t) <;> simp [Bool.or_comm, Bool.or_left_comm, Bool.or_assoc]
theorem f_remove (hx : rows xs = hR) (h : OpOf opD xs [rr tB [(2, 6)]] zs) : rows zs = [(tA, [(0, 4)])] := by
  refine can_ext _ _ h.can (can_one ok04) fun t k hk => ?_
  rw [h.mom t k hk, hx, show rows [rr tB [(2, 6)]] = [(tB, [(2, 6)])] from rfl, mom2, mom1, mom1]
  unfold opD
  have := not_both t
  revert this
  cases decide (tA = t) <;> cases decide (tB = t) <;> simp
theorem f_union (hx : rows xs = [(tB, [(2, 6)])]) (hy : rows ys = [(tA, [(0, 4)])]) (h : OpOf opU xs ys zs) : rows zs = hR := by
  refine can_ext _ _ h.can hR_can fun t k hk => ?_
  rw [h.mom t k hk, hx, hy, mom1, mom1, mom2]
  exact Bool.or_comm _ _
theorem f_meet (hx : rows xs = [(tA, [(0, 4)])]) (hy : rows ys = [(tB, [(2, 6)])]) (h : OpOf opM xs ys zs) : rows zs = [] := by
  refine can_ext _ _ h.can can_zero fun t k hk => ?_
  rw [h.mom t k hk, hx, hy, mom1, mom1, mom_nil]
  unfold opM
  have := not_both t
  revert this
  cases decide (tA = t) <;> cases decide (tB = t) <;> simp
theorem f_minus (hx : rows xs = hR) (hy : rows ys = [(tA, [(1, 2)])]) (h : OpOf opD xs ys zs) : rows zs = [(tA, [(0, 1), (2, 4)]), (tB, [(2, 6)])] := by
  refine can_ext _ _ h.can (can_two tAB ok0124 ok26) fun t k hk => ?_
  rw [h.mom t k hk, hx, hy, mom2, mom1, mom2, ← k12 k hk]
  unfold opD
  have := not_both t
  revert this
  cases decide (tA = t) <;> cases decide (tB = t) <;> simp
theorem f_when (hx : rows xs = hR) : (canon fun k => mom (rows xs) tB k) = [(2, 6)] := by
  rw [hx, ← ok26.2]
  refine canon_ext fun k hk => ?_
  rw [mom2, decide_eq_false neAB, decide_eq_true rfl, Bool.false_and, Bool.false_or, Bool.true_and]
theorem two_of (h : rows zs = hR) : ∃ x y, zs = [x, y] ∧ x.t = tA ∧ x.s = [(0, 4)] ∧ y.t = tB ∧ y.s = [(2, 6)] := by
  have hl : zs.length = 2 := by rw [← rows_length, h]; rfl
  rcases zs with _ | ⟨x, _ | ⟨y, _ | ⟨z, r⟩⟩⟩
  · cases hl
  · cases hl
  · injection h with h1 h2
    injection h2 with h2 _
    exact ⟨x, y, rfl, congrArg Prod.fst h1, congrArg Prod.snd h1, congrArg Prod.fst h2, congrArg Prod.snd h2⟩
  · simp at hl
theorem f_at (hx : rows xs = hR) {m : Int} {l : List Tp} (h : AtOf xs m l) : l = (if inSet [(0, 4)] m then [tA] else []) ++ (if inSet [(2, 6)] m then [tB] else []) := by
  obtain ⟨zs, hc, e⟩ := h
  obtain ⟨x, y, rfl, h1, h2, h3, h4⟩ := two_of (fit_can hx hc)
  rw [e]
  cases ha : inSet [(0, 4)] m <;> cases hb : inSet [(2, 6)] m <;> simp [List.filter, h1, h2, h3, h4, ha, hb]
def zeroVl : Vl := ⟨0, 0, [], by simp⟩
def tmX : Tm := ⟨[88], zeroVl, by simp⟩
def tmC (v : Vl) : Tm := ⟨[], v, by simp⟩
theorem f_select (hx : rows xs = hR) (h : CanOf (xs.filter fun x => matchL [tmX, tmC (intVl 2)] x.t) zs) : rows zs = [(tB, [(2, 6)])] := by
  obtain ⟨x, y, rfl, h1, h2, h3, h4⟩ := two_of hx
  have e1 : matchL [tmX, tmC (intVl 2)] tA = false := by decide +kernel
  have e2 : matchL [tmX, tmC (intVl 2)] tB = true := by decide +kernel
  have e : rows ([x, y].filter fun x => matchL [tmX, tmC (intVl 2)] x.t) = [(tB, [(2, 6)])] := by
    simp only [List.filter, h1, h3, e1, e2]
    show [(y.t, y.s)] = _
    rw [h3, h4]
  exact can_ext _ _ h.can (can_one ok26) fun t k hk => by rw [h.mom t k hk, e]
theorem f_select2 (hx : rows xs = hR) (h : CanOf (xs.filter fun x => matchL [tmX, tmX] x.t) zs) : rows zs = [] := by
  obtain ⟨x, y, rfl, h1, h2, h3, h4⟩ := two_of hx
  have e1 : matchL [tmX, tmX] tA = false := by decide +kernel
  have e2 : matchL [tmX, tmX] tB = false := by decide +kernel
  have e : rows ([x, y].filter fun x => matchL [tmX, tmX] x.t) = [] := by
    simp only [List.filter, h1, h3, e1, e2]
    rfl
  exact can_ext _ _ h.can can_zero fun t k hk => by rw [h.mom t k hk, e]
end
end Go.Proofs.YtdibijhaiaiifaaDoor
/- Plain laws of the operations on relations: what two results have in common. -/
namespace Go.Proofs.YtdibijhaiaiifaaDoor
theorem Sml.mono {n m : Nat} {xs : List RR} (h : Sml n xs) (hn : n ≤ m) : Sml m xs := ⟨Nat.le_trans h.len hn, h.each⟩
theorem Sml.nil (n : Nat) : Sml n [] := ⟨Nat.zero_le _, by simp⟩
section
variable {xs ys es bs cs ds : List RR} {o1 o2 : Bool → Bool → Bool}
/-- Two canonical relations of the same moments. -/
theorem same_of (ha : IsCan (rows es)) (hb : IsCan (rows bs)) (h : ∀ t k, k < 64 → mom (rows es) t k = mom (rows bs) t k) : rows es = rows bs := can_ext _ _ ha hb h
theorem none_of (ha : IsCan (rows es)) (h : ∀ t k, k < 64 → mom (rows es) t k = false) : es.length = 0 := by
  have := can_ext _ _ ha can_zero fun t k hk => by rw [h t k hk, mom_nil]
  rw [← rows_length, this]; rfl
theorem parts_union (hm : OpOf opM xs ys es) (hd : OpOf opD xs ys bs) (hu : OpOf opU es bs cs) (hx : OpOf opU xs [] ds) : rows cs = rows ds := by
  refine same_of hu.can hx.can fun t k hk => ?_
  rw [hu.mom t k hk, hm.mom t k hk, hd.mom t k hk, hx.mom t k hk]
  unfold opU opM opD
  show _ = (_ || mom [] t k)
  rw [mom_nil]
  cases mom (rows xs) t k <;> cases mom (rows ys) t k <;> rfl
theorem parts_meet (hm : OpOf opM xs ys es) (hd : OpOf opD xs ys bs) (hu : OpOf opM es bs cs) : cs.length = 0 := by
  refine none_of hu.can fun t k hk => ?_
  rw [hu.mom t k hk, hm.mom t k hk, hd.mom t k hk]
  unfold opM opD
  cases mom (rows xs) t k <;> cases mom (rows ys) t k <;> rfl
theorem parts_comm (hm : OpOf opM xs ys es) (hn : OpOf opM ys xs bs) : rows es = rows bs := by
  refine same_of hm.can hn.can fun t k hk => ?_
  rw [hm.mom t k hk, hn.mom t k hk]
  exact Bool.and_comm _ _
theorem parts_minus (hm : OpOf opM xs ys es) (hd : OpOf opD xs ys bs) (hn : OpOf opD xs bs cs) : rows cs = rows es := by
  refine same_of hn.can hm.can fun t k hk => ?_
  rw [hn.mom t k hk, hm.mom t k hk, hd.mom t k hk]
  unfold opM opD
  cases mom (rows xs) t k <;> cases mom (rows ys) t k <;> rfl
end
end Go.Proofs.YtdibijhaiaiifaaDoor
/- Plain laws of the law RelationOne. -/
namespace Go.Proofs.YtdibijhaiaiifaaDoor
section
variable {xs ns rs us ms zs vs : List RR} {t t' : Tp} {s s' : List Sp}
theorem one_insert (hn : OpOf opU xs [rr t s] ns) (hu : OpOf opU xs [rr t s] us) : rows ns = rows us := same_of hn.can hu.can fun t' k hk => by rw [hn.mom t' k hk, hu.mom t' k hk]
theorem one_remove (hr : OpOf opD xs [rr t s] rs) (hm : OpOf opD xs [rr t s] ms) : rows rs = rows ms := same_of hr.can hm.can fun t' k hk => by rw [hr.mom t' k hk, hm.mom t' k hk]
theorem one_other (h : t ≠ t') (k : Nat) : mom (rows [rr t s]) t' k = false := by
  rw [mom_one]
  show (decide (t = t') && _) = false
  rw [decide_eq_false h]; rfl
theorem one_self (k : Nat) : mom (rows [rr t s]) t k = setOf s k := by
  rw [mom_one]
  show (decide (t = t) && setOf s k) = _
  rw [decide_eq_true rfl]; rfl
theorem one_when_insert (hn : OpOf opU xs [rr t s] ns) (h : t ≠ t') : (canon fun k => mom (rows ns) t' k) = canon fun k => mom (rows xs) t' k := canon_ext fun k hk => by
  rw [hn.mom t' k hk, one_other h]
  exact Bool.or_false _
theorem one_when_remove (hr : OpOf opD xs [rr t s] rs) (h : t ≠ t') : (canon fun k => mom (rows rs) t' k) = canon fun k => mom (rows xs) t' k := canon_ext fun k hk => by
  rw [hr.mom t' k hk, one_other h]
  unfold opD
  cases mom (rows xs) t' k <;> rfl
theorem one_back (hn : OpOf opU xs [rr t s] ns) (hz : OpOf opD ns [rr t (canon fun k => setOf s k && !setOf (canon fun k => mom (rows xs) t k) k)] zs) (hv : OpOf opU xs [] vs) : rows zs = rows vs := by
  refine same_of hz.can hv.can fun t' k hk => ?_
  rw [hz.mom t' k hk, hn.mom t' k hk, hv.mom t' k hk]
  unfold opU opD
  show _ = (_ || mom [] t' k)
  rw [mom_nil]
  by_cases h : t = t'
  · subst h
    rw [one_self, one_self, setOf_canon _ k hk, setOf_canon _ k hk]
    cases mom (rows xs) t k <;> cases setOf s k <;> rfl
  · rw [one_other h, one_other h]
    cases mom (rows xs) t' k <;> rfl
theorem one_when (hn : OpOf opU xs [rr t s] ns) : (canon fun k => mom (rows ns) t k) = canon fun k => setOf (canon fun k => mom (rows xs) t k) k || setOf s k := canon_ext fun k hk => by
  rw [hn.mom t k hk, one_self, setOf_canon _ k hk]
  rfl
end
end Go.Proofs.YtdibijhaiaiifaaDoor
/- Plain laws of the law RelationCanonical. -/
namespace Go.Proofs.YtdibijhaiaiifaaDoor
section
variable {xs ys cs es fs os : List RR} {op : Bool → Bool → Bool}
/-- Rows that say nothing new about xs. -/
def Echo (xs L : List RR) : Prop := ∀ y ∈ L, ∃ x ∈ xs, y.t = x.t ∧ (y.s = x.s ∨ y.s = [])
theorem Echo.nil (xs : List RR) : Echo xs [] := by intro y hy; cases hy
theorem Echo.two {L : List RR} (h : Echo xs L) {x p q : RR} (hx : x ∈ xs) (hp : p.t = x.t ∧ (p.s = x.s ∨ p.s = [])) (hq : q.t = x.t ∧ (q.s = x.s ∨ q.s = [])) : Echo xs (L ++ [p, q]) := by
  intro y hy
  rcases List.mem_append.1 hy with hy | hy
  · exact h y hy
  · rcases List.mem_cons.1 hy with rfl | hy
    · exact ⟨x, hx, hp⟩
    · rw [List.mem_singleton.1 hy]; exact ⟨x, hx, hq⟩
theorem Echo.moms {L : List RR} (h : Echo xs L) (t : Tp) (k : Nat) : mom (rows (L ++ xs)) t k = mom (rows xs) t k := by
  rw [rows_append, mom_append]
  cases e : mom (rows L) t k with
  | false => rfl
  | true =>
    unfold mom at e
    rw [List.any_eq_true] at e
    obtain ⟨q, hq, e⟩ := e
    obtain ⟨y, hy, rfl⟩ := mem_rows.1 hq
    rw [Bool.and_eq_true, decide_eq_true_eq] at e
    obtain ⟨x, hx, ht, hs⟩ := h y hy
    have e1 : y.t = t := e.1
    have e2 : setOf y.s k = true := e.2
    rcases hs with hs | hs
    · have : mom (rows xs) t k = true := by
        unfold mom
        rw [List.any_eq_true]
        refine ⟨x.rw, mem_rows.2 ⟨x, hx, rfl⟩, ?_⟩
        rw [Bool.and_eq_true, decide_eq_true_eq]
        exact ⟨ht.symm.trans e1, by rw [← e2, hs]; rfl⟩
      rw [this]; rfl
    · rw [hs, setOf_nil] at e2; cases e2
theorem Echo.sml {L : List RR} (h : Echo xs L) (hl : L.length ≤ 2 * xs.length) {n : Nat} (hs : Sml n xs) : Sml (3 * n) (L ++ xs) := by
  refine ⟨by have := hs.len; rw [List.length_append]; omega, fun y hy => ?_⟩
  rcases List.mem_append.1 hy with hy | hy
  · obtain ⟨x, hx, ht, he⟩ := h y hy
    refine ⟨by rw [ht]; exact (hs.each x hx).1, ?_⟩
    rcases he with he | he
    · rw [he]; exact (hs.each x hx).2
    · rw [he]; simp
  · exact hs.each y hy
theorem op_left (h : ∀ t k, mom (rows cs) t k = mom (rows xs) t k) (he : OpOf op cs ys es) (hf : OpOf op xs ys fs) : rows es = rows fs := same_of he.can hf.can fun t k hk => by rw [he.mom t k hk, hf.mom t k hk, h]
theorem op_right (h : ∀ t k, mom (rows cs) t k = mom (rows xs) t k) (he : OpOf op ys cs es) (hf : OpOf op ys xs fs) : rows es = rows fs := same_of he.can hf.can fun t k hk => by rw [he.mom t k hk, hf.mom t k hk, h]
theorem mom_filter (P : Tp → Bool) (l : List RR) (t : Tp) (k : Nat) : mom (rows (l.filter fun x => P x.t)) t k = (P t && mom (rows l) t k) := by
  induction l with
  | nil => show false = _; cases P t <;> rfl
  | cons x l ih =>
    rw [List.filter_cons, rows_cons, mom_cons]
    by_cases h : x.t = t
    · cases hp : P x.t
      · rw [if_neg (by simp), ih]
        rw [h] at hp
        rw [hp]; rfl
      · rw [if_pos (by simp), rows_cons, mom_cons, ih]
        rw [h] at hp
        rw [hp]; rfl
    · have hd : decide (x.rw.1 = t) = false := decide_eq_false h
      split
      · rw [rows_cons, mom_cons, ih, hd]; rfl
      · rw [ih, hd]; rfl
theorem sel_of (h : ∀ t k, mom (rows cs) t k = mom (rows xs) t k) {P : Tp → Bool} (he : CanOf (cs.filter fun x => P x.t) es) (hf : CanOf (xs.filter fun x => P x.t) fs) : rows es = rows fs := same_of he.can hf.can fun t k hk => by rw [he.mom t k hk, hf.mom t k hk, mom_filter, mom_filter, h]
theorem can_iff (ho : OpOf opU xs [] os) {b : Bool} (hb : b = true ↔ IsCan (rows xs)) : b = decide (rows xs = rows os) := by
  have h : IsCan (rows xs) ↔ rows xs = rows os := by
    constructor
    · intro h
      refine same_of h ho.can fun t k hk => ?_
      rw [ho.mom t k hk]
      show _ = (_ || mom [] t k)
      rw [mom_nil, Bool.or_false]
    · intro h; rw [h]; exact ho.can
  rw [Bool.eq_iff_iff, hb, decide_eq_true_iff]; exact h
end
end Go.Proofs.YtdibijhaiaiifaaDoor
/- Plain laws of the law RelationMoments. -/
namespace Go.Proofs.YtdibijhaiaiifaaDoor
section
variable {xs ys zs : List RR} {a b l m : List Tp} {k : Nat}
/-- Tuples that grow. -/
def UpT : List Tp → Prop
  | [] => True
  | x :: r => (∀ y ∈ r, cmpT x y < 0) ∧ UpT r
theorem UpT.filter {P : Tp → Bool} : ∀ {a : List Tp}, UpT a → UpT (a.filter P)
  | [], _ => trivial
  | x :: a, h => by
    rw [List.filter_cons]
    split
    · exact ⟨fun y hy => h.1 y (List.mem_filter.1 hy).1, UpT.filter h.2⟩
    · exact UpT.filter h.2
theorem upT_map : ∀ {l : List RR}, Up (rows l) → UpT (l.map (·.t))
  | [], _ => trivial
  | x :: l, h => ⟨fun y hy => by
      obtain ⟨z, hz, rfl⟩ := List.mem_map.1 hy
      exact up_head h z hz, upT_map h.2⟩
theorem up_filter {P : RR → Bool} : ∀ {l : List RR}, Up (rows l) → Up (rows (l.filter P))
  | [], _ => trivial
  | x :: l, h => by
    rw [List.filter_cons]
    split
    · exact ⟨fun y hy => by
        obtain ⟨z, hz, rfl⟩ := mem_rows.1 hy
        exact up_head h z (List.mem_filter.1 hz).1, up_filter h.2⟩
    · exact up_filter h.2
theorem upT_ext : ∀ {a b : List Tp}, UpT a → UpT b → (∀ t, t ∈ a ↔ t ∈ b) → a = b
  | [], [], _, _, _ => rfl
  | [], y :: b, _, _, h => absurd ((h y).2 (by simp)) (by simp)
  | x :: a, [], _, _, h => absurd ((h x).1 (by simp)) (by simp)
  | x :: a, y :: b, ha, hb, h => by
    have hxy : x = y := by
      rcases List.mem_cons.1 ((h x).1 (by simp)) with e | hx
      · exact e
      · rcases List.mem_cons.1 ((h y).2 (by simp)) with e | hy
        · exact e.symm
        · have h1 := ha.1 y hy
          have h2 := hb.1 x hx
          have := cmpT_is.anti x y
          omega
    subst hxy
    have hn : ∀ {c : List Tp}, (∀ y ∈ c, cmpT x y < 0) → x ∉ c := fun hc hx => by
      have := hc x hx
      rw [cmpT_is.refl] at this; omega
    rw [upT_ext ha.2 hb.2 fun t => ?_]
    have := h t
    simp only [List.mem_cons] at this
    constructor
    · intro ht
      rcases this.1 (.inr ht) with e | h1
      · subst e; exact absurd ht (hn ha.1)
      · exact h1
    · intro ht
      rcases this.2 (.inr ht) with e | h1
      · subst e; exact absurd ht (hn hb.1)
      · exact h1
theorem inSet_nat (s : List Sp) (hk : k < 64) : inSet s (k : Int) = setOf s k := by
  unfold inSet
  rw [decide_eq_true (by omega : (0 : Int) ≤ (k : Int)), decide_eq_true (by omega : (k : Int) < 64)]
  rfl
theorem at_mem (hk : k < 64) (h : AtOf xs (k : Int) l) (t : Tp) : t ∈ l ↔ mom (rows xs) t k = true := by
  obtain ⟨zs, hz, rfl⟩ := h
  rw [← hz.mom t k hk, List.mem_map]
  unfold mom
  rw [List.any_eq_true]
  constructor
  · rintro ⟨z, hz, rfl⟩
    obtain ⟨h1, h2⟩ := List.mem_filter.1 hz
    refine ⟨z.rw, mem_rows.2 ⟨z, h1, rfl⟩, ?_⟩
    rw [inSet_nat _ hk] at h2
    rw [Bool.and_eq_true, decide_eq_true_eq]
    exact ⟨rfl, h2⟩
  · rintro ⟨y, hy, e⟩
    obtain ⟨z, h1, rfl⟩ := mem_rows.1 hy
    rw [Bool.and_eq_true, decide_eq_true_eq] at e
    exact ⟨z, List.mem_filter.2 ⟨h1, by rw [inSet_nat _ hk]; exact e.2⟩, e.1⟩
theorem at_up {m : Int} (h : AtOf xs m l) : UpT l := by
  obtain ⟨zs, hz, rfl⟩ := h
  exact upT_map (up_filter hz.can.1)
/-- The tuples of a list that are in another one, or not in it. -/
def keptL (a b : List Tp) (want : Bool) : List Tp := a.filter fun t => decide (decide (t ∈ b) = want)
theorem kept_mem {want : Bool} (t : Tp) : t ∈ keptL a b want ↔ t ∈ a ∧ decide (t ∈ b) = want := by
  unfold keptL
  rw [List.mem_filter, decide_eq_true_eq]
theorem mem_iff_dec {c : List Tp} {t : Tp} {v : Bool} (h : t ∈ c ↔ v = true) : decide (t ∈ c) = v := by rw [Bool.eq_iff_iff, decide_eq_true_iff]; exact h
theorem at_meet (hk : k < 64) (ho : OpOf opM xs ys zs) (ha : AtOf xs (k : Int) a) (hb : AtOf ys (k : Int) b) (hl : AtOf zs (k : Int) l) : l = keptL a b true := by
  refine upT_ext (at_up hl) (UpT.filter (at_up ha)) fun t => ?_
  rw [kept_mem, at_mem hk hl, ho.mom t k hk, at_mem hk ha, decide_eq_true_iff, at_mem hk hb]
  unfold opM
  rw [Bool.and_eq_true]
theorem at_minus (hk : k < 64) (ho : OpOf opD xs ys zs) (ha : AtOf xs (k : Int) a) (hb : AtOf ys (k : Int) b) (hl : AtOf zs (k : Int) l) : l = keptL a b false := by
  refine upT_ext (at_up hl) (UpT.filter (at_up ha)) fun t => ?_
  rw [kept_mem, at_mem hk hl, ho.mom t k hk, at_mem hk ha, mem_iff_dec (at_mem hk hb t)]
  unfold opD
  cases mom (rows xs) t k <;> cases mom (rows ys) t k <;> simp
theorem kept_none {want : Bool} (h : ∀ t, t ∈ a → decide (t ∈ b) = !want) : keptL a b want = [] := by
  unfold keptL
  rw [List.filter_eq_nil_iff]
  intro t ht
  rw [h t ht]
  cases want <;> simp
theorem at_left (hk : k < 64) (ho : OpOf opU xs ys zs) (ha : AtOf xs (k : Int) a) (hl : AtOf zs (k : Int) l) : keptL a l false = [] := kept_none fun t ht => by
  rw [mem_iff_dec (at_mem hk hl t), ho.mom t k hk, (at_mem hk ha t).1 ht]; rfl
theorem at_right (hk : k < 64) (ho : OpOf opU xs ys zs) (hb : AtOf ys (k : Int) b) (hl : AtOf zs (k : Int) l) : keptL b l false = [] := kept_none fun t ht => by
  rw [mem_iff_dec (at_mem hk hl t), ho.mom t k hk, (at_mem hk hb t).1 ht]; exact Bool.or_true _
theorem at_rest (hk : k < 64) (ho : OpOf opU xs ys zs) (ha : AtOf xs (k : Int) a) (hb : AtOf ys (k : Int) b) (hl : AtOf zs (k : Int) l) : keptL (keptL l a false) b false = [] := kept_none fun t ht => by
  rw [kept_mem, mem_iff_dec (at_mem hk ha t), at_mem hk hl, ho.mom t k hk] at ht
  rw [mem_iff_dec (at_mem hk hb t)]
  obtain ⟨h1, h2⟩ := ht
  unfold opU at h1
  rw [h2] at h1
  exact h1
theorem at_select (hk : k < 64) {P : Tp → Bool} (hs : CanOf (xs.filter fun x => P x.t) zs) (ha : AtOf xs (k : Int) a) (hl : AtOf zs (k : Int) l) : l = a.filter P := by
  refine upT_ext (at_up hl) (UpT.filter (at_up ha)) fun t => ?_
  rw [at_mem hk hl, hs.mom t k hk, mom_filter, List.mem_filter, at_mem hk ha, Bool.and_eq_true]
  exact And.comm
/-- What was gathered of a relation before a moment. -/
def Sofar (xs all : List RR) (k : Nat) : Prop := (∀ t j, j < 64 → mom (rows all) t j = (decide (j < k) && mom (rows xs) t j)) ∧ ∀ y ∈ all, y.t.length ≤ 64 ∧ y.s.length ≤ 64
theorem Sofar.start (xs : List RR) : Sofar xs [] 0 := ⟨fun t j _ => by rw [decide_eq_false (by omega)]; rfl, by intro y hy; cases hy⟩
/-- .. and of the tuples at the moment itself, so far. -/
def SofarI (xs all : List RR) (k : Nat) (a : List Tp) : Prop := (∀ t j, j < 64 → mom (rows all) t j = ((decide (j < k) && mom (rows xs) t j) || (decide (j = k) && decide (t ∈ a)))) ∧ ∀ y ∈ all, y.t.length ≤ 64 ∧ y.s.length ≤ 64
theorem Sofar.inner {all : List RR} (h : Sofar xs all k) : SofarI xs all k [] := ⟨fun t j hj => by rw [h.1 t j hj]; simp, h.2⟩
theorem setOf_one (k j : Nat) : setOf [((k : Int), (k : Int) + 1)] j = decide (j = k) := by
  unfold setOf has
  rw [List.any_cons, List.any_nil, Bool.or_false, Bool.eq_iff_iff, Bool.and_eq_true, decide_eq_true_eq, decide_eq_true_eq, decide_eq_true_eq]
  omega
theorem SofarI.step {all : List RR} (h : SofarI xs all k a) {y : RR} (hs : y.s = [((k : Int), (k : Int) + 1)]) (ht : y.t.length ≤ 64) : SofarI xs (all ++ [y]) k (a ++ [y.t]) := by
  refine ⟨fun t j hj => ?_, fun z hz => ?_⟩
  · rw [rows_append, mom_append, h.1 t j hj, mom_one, hs, setOf_one]
    rw [Bool.eq_iff_iff]
    simp only [Bool.or_eq_true, Bool.and_eq_true, decide_eq_true_eq, List.mem_append, List.mem_singleton]
    constructor
    · rintro ((h | h) | h)
      · exact .inl h
      · exact .inr ⟨h.1, .inl h.2⟩
      · exact .inr ⟨h.2, .inr h.1.symm⟩
    · rintro (h | ⟨h, h2 | h2⟩)
      · exact .inl (.inl h)
      · exact .inl (.inr ⟨h, h2⟩)
      · exact .inr ⟨h2.symm, h⟩
  · rcases List.mem_append.1 hz with hz | hz
    · exact h.2 z hz
    · rw [List.mem_singleton.1 hz]; exact ⟨ht, by rw [hs]; simp⟩
theorem SofarI.done {all : List RR} (h : SofarI xs all k a) (hk : k < 64) (ha : AtOf xs (k : Int) a) : Sofar xs all (k + 1) := by
  refine ⟨fun t j hj => ?_, h.2⟩
  rw [h.1 t j hj]
  by_cases e : j = k
  · subst e
    rw [mem_iff_dec (at_mem hk ha t)]
    simp
  · rw [decide_eq_false e, Bool.false_and, Bool.or_false]
    congr 1
    rw [Bool.eq_iff_iff, decide_eq_true_iff, decide_eq_true_iff]; omega
theorem sofar_same {all es fs : List RR} (h : Sofar xs all 64) (he : OpOf opU all [] es) (hf : OpOf opU xs [] fs) : rows es = rows fs := same_of he.can hf.can fun t k hk => by
  rw [he.mom t k hk, hf.mom t k hk, h.1 t k hk, decide_eq_true hk]; rfl
end
end Go.Proofs.YtdibijhaiaiifaaDoor
/- Plain laws of the law RelationSelection. -/
namespace Go.Proofs.YtdibijhaiaiifaaDoor
section
variable {xs ys zs ws es fs us : List RR} {op : Bool → Bool → Bool} {P : Tp → Bool}
theorem sel_op (h : ∀ p x y, (p && op x y) = op (p && x) (p && y)) (hu : OpOf op xs ys us) (he : CanOf (us.filter fun x => P x.t) es) (hx : CanOf (xs.filter fun x => P x.t) zs) (hy : CanOf (ys.filter fun x => P x.t) ws) (hf : OpOf op zs ws fs) : rows es = rows fs := same_of he.can hf.can fun t k hk => by
  rw [he.mom t k hk, mom_filter, hu.mom t k hk, hf.mom t k hk, hx.mom t k hk, hy.mom t k hk, mom_filter, mom_filter, h]
theorem dist_U (p x y : Bool) : (p && opU x y) = opU (p && x) (p && y) := by cases p <;> cases x <;> cases y <;> rfl
theorem dist_M (p x y : Bool) : (p && opM x y) = opM (p && x) (p && y) := by cases p <;> cases x <;> cases y <;> rfl
theorem dist_D (p x y : Bool) : (p && opD x y) = opD (p && x) (p && y) := by cases p <;> cases x <;> cases y <;> rfl
theorem sel_again (hx : CanOf (xs.filter fun x => P x.t) zs) (he : CanOf (zs.filter fun x => P x.t) es) : rows es = rows zs := same_of he.can hx.can fun t k hk => by
  rw [he.mom t k hk, mom_filter, hx.mom t k hk, mom_filter]
  cases P t <;> rfl
/-- Terms that are different variables. -/
def Free (ms : List Tm) : Prop := ∀ (i : Nat) (m : Tm), ms[i]? = some m → m.v ≠ [] ∧ ∀ (j : Nat) (m' : Tm), ms[j]? = some m' → m'.v = m.v → j = i
theorem first_free {m0 : List Tm} {ms : List Tm} (hf : Free ms) (h0 : ∀ m ∈ m0, m.v = []) {i : Nat} {m : Tm} (h : ms[i]? = some m) : firstOf (m0 ++ ms) m.v = m0.length + i := by
  have hi : (m0 ++ ms)[m0.length + i]? = some m := by rw [List.getElem?_append_right (by omega), show m0.length + i - m0.length = i by omega]; exact h
  have hle := firstOf_le hi
  have hlt : firstOf (m0 ++ ms) m.v < (m0 ++ ms).length := Nat.lt_of_le_of_lt hle (List.getElem?_eq_some_iff.1 hi).1
  have hp := List.findIdx_getElem (p := fun u : Tm => decide (u.v = m.v)) (xs := m0 ++ ms) (w := hlt)
  rw [decide_eq_true_eq] at hp
  obtain ⟨f, hfd⟩ : ∃ f, firstOf (m0 ++ ms) m.v = f := ⟨_, rfl⟩
  have hfd' : List.findIdx (fun u : Tm => decide (u.v = m.v)) (m0 ++ ms) = f := hfd
  rw [hfd] at hle hlt ⊢
  have hq : ∃ q, (m0 ++ ms)[f]? = some q ∧ q.v = m.v := ⟨(m0 ++ ms)[f], List.getElem?_eq_getElem hlt, by
    simp only [hfd'] at hp
    exact hp⟩
  obtain ⟨q, hq1, hq2⟩ := hq
  by_cases hc : f < m0.length
  · rw [List.getElem?_append_left hc] at hq1
    have := h0 q (List.mem_of_getElem? hq1)
    rw [this] at hq2
    exact absurd hq2.symm (hf i m h).1
  · rw [List.getElem?_append_right (by omega)] at hq1
    have := (hf i m h).2 _ q hq1 hq2
    omega
theorem match_free {ms : List Tm} (hf : Free ms) (t : Tp) : matchL ms t = decide (t.length = ms.length) := by
  by_cases hl : t.length = ms.length
  · rw [decide_eq_true hl]
    refine match_all hl fun j hj => ?_
    obtain ⟨m, hm⟩ : ∃ m, ms[j]? = some m := ⟨_, List.getElem?_eq_getElem hj⟩
    obtain ⟨y, hy⟩ : ∃ y, t[j]? = some y := ⟨_, List.getElem?_eq_getElem (by omega)⟩
    have hfi := first_free (m0 := []) hf (by simp) hm
    simp only [List.nil_append, List.length_nil, Nat.zero_add] at hfi
    rw [okAt_var hm hy (hf j m hm).1 (by rw [hfi]; exact hy)]
    exact decide_eq_true rfl
  · unfold matchL
    rw [decide_eq_false hl, Bool.false_and]
/-- A tuple's first value. -/
def fst? (t : Tp) : Option Vl := t[0]?
theorem match_part {c : Tm} {ms : List Tm} (hf : Free ms) (hc : c.v = []) (t : Tp) : matchL (c :: ms) t = (decide (t.length = ms.length + 1) && decide (fst? t = some c.c)) := by
  by_cases hl : t.length = ms.length + 1
  · rw [decide_eq_true hl, Bool.true_and]
    obtain ⟨y0, hy0⟩ : ∃ y, t[0]? = some y := ⟨_, List.getElem?_eq_getElem (by omega)⟩
    have h0 : okAt (c :: ms) t 0 = decide (fst? t = some c.c) := by
      rw [okAt_const (m := c) rfl hy0 hc, Bool.eq_iff_iff, decide_eq_true_iff, decide_eq_true_iff]
      unfold fst?
      rw [hy0]; simp
    cases h : decide (fst? t = some c.c) with
    | false => exact match_not (i := 0) (by simp) (by rw [h0, h])
    | true =>
      refine match_all (by rw [hl]; rfl) fun j hj => ?_
      rcases j with _ | j
      · rw [h0, h]
      · have hj' : j < ms.length := by simpa using hj
        obtain ⟨m, hm⟩ : ∃ m, ms[j]? = some m := ⟨_, List.getElem?_eq_getElem hj'⟩
        obtain ⟨y, hy⟩ : ∃ y, t[j + 1]? = some y := ⟨_, List.getElem?_eq_getElem (by omega)⟩
        have hfi := first_free (m0 := [c]) hf (by simp [hc]) hm
        rw [okAt_var (m := m) (by simpa using hm) hy (hf j m hm).1 (by
          have e : firstOf (c :: ms) m.v = 1 + j := hfi
          rw [e, Nat.add_comm]; exact hy)]
        exact decide_eq_true rfl
  · rw [decide_eq_false hl, Bool.false_and]
    unfold matchL
    rw [decide_eq_false (by simpa using hl), Bool.false_and]
/-- The names of the variables. -/
def nameA (i : Nat) : List UInt8 := [UInt8.ofNat (65 + i)]
def freeL (n : Nat) : List (List UInt8) := (List.range n).map nameA
theorem free_of {ms : List Tm} (h : ms.map (·.v) = freeL ms.length) (hn : ms.length ≤ 6) : Free ms := by
  have key : ∀ i m, ms[i]? = some m → m.v = nameA i ∧ i < 6 := fun i m hm => by
    have hl := (List.getElem?_eq_some_iff.1 hm).1
    have h2 : (ms.map (·.v))[i]? = some m.v := by rw [List.getElem?_map, hm]; rfl
    rw [h] at h2
    unfold freeL at h2
    rw [List.getElem?_map, List.getElem?_range hl] at h2
    exact ⟨(Option.some.inj h2).symm, by omega⟩
  intro i m hm
  obtain ⟨e, hi⟩ := key i m hm
  refine ⟨by rw [e]; simp [nameA], fun j m' hm' he => ?_⟩
  obtain ⟨e', hj⟩ := key j m' hm'
  rw [e, e'] at he
  unfold nameA at he
  have := congrArg UInt8.toNat (List.cons.inj he).1
  simp only [UInt8.toNat_ofNat'] at this
  omega
/-- The rows whose tuples begin with one of some values. -/
def byFst (seen : List Vl) (ws : List RR) : List RR := ws.filter fun y => decide (∃ v ∈ seen, fst? y.t = some v)
theorem can_filter {Q : RR → Bool} (h : IsCan (rows ws)) : IsCan (rows (ws.filter Q)) := ⟨up_filter h.1, fun x hx => by
  obtain ⟨z, hz, rfl⟩ := mem_rows.1 hx
  exact h.2 _ (mem_rows.2 ⟨z, (List.mem_filter.1 hz).1, rfl⟩)⟩
structure SelI (ws : List RR) (i : Nat) (seen : List Vl) (cnt : Nat) (ps : List RR) : Prop where
  saw : ∀ v, v ∈ seen ↔ ∃ y ∈ ws.take i, fst? y.t = some v
  num : cnt = (byFst seen ws).length
  alike : rows ps = rows (byFst seen ws)
theorem byFst_nil (ws : List RR) : byFst [] ws = [] := by unfold byFst; rw [List.filter_eq_nil_iff]; intro a _; simp
theorem SelI.start (ws : List RR) : SelI ws 0 [] 0 [] := ⟨fun v => by simp, by rw [byFst_nil]; rfl, by rw [byFst_nil]⟩
variable {i cnt : Nat} {seen : List Vl} {ps qs : List RR} {x : RR} {v : Vl}
theorem SelI.old (h : SelI ws i seen cnt ps) (hx : ws[i]? = some x) (hv : fst? x.t = some v) (hs : v ∈ seen) : SelI ws (i + 1) seen cnt ps := by
  refine ⟨fun u => ?_, h.num, h.alike⟩
  rw [h.saw u, take_succ' hx]
  constructor
  · rintro ⟨y, hy, e⟩; exact ⟨y, List.mem_append_left _ hy, e⟩
  · rintro ⟨y, hy, e⟩
    rcases List.mem_append.1 hy with hy | hy
    · exact ⟨y, hy, e⟩
    · rw [List.mem_singleton.1 hy, hv] at e
      cases e
      exact (h.saw v).1 hs
theorem byFst_more (hs : v ∉ seen) (ws : List RR) : (byFst (seen ++ [v]) ws).length = (byFst seen ws).length + (ws.filter fun y => decide (fst? y.t = some v)).length := by
  induction ws with
  | nil => rfl
  | cons y ws ih =>
    unfold byFst at ih ⊢
    rw [List.filter_cons, List.filter_cons, List.filter_cons]
    by_cases h1 : fst? y.t = some v
    · have h2 : ¬ ∃ u ∈ seen, fst? y.t = some u := by
        rintro ⟨u, hu, e⟩
        rw [h1] at e
        cases e
        exact hs hu
      rw [if_pos (decide_eq_true ⟨v, by simp, h1⟩), if_neg (by rw [decide_eq_false h2]; simp), if_pos (decide_eq_true h1), List.length_cons, List.length_cons, ih]
      omega
    · by_cases h2 : ∃ u ∈ seen, fst? y.t = some u
      · have h3 : ∃ u ∈ seen ++ [v], fst? y.t = some u := by obtain ⟨u, hu, e⟩ := h2; exact ⟨u, List.mem_append_left _ hu, e⟩
        rw [if_pos (decide_eq_true h3), if_pos (decide_eq_true h2), if_neg (by rw [decide_eq_false h1]; simp), List.length_cons, List.length_cons, ih]
        omega
      · have h3 : ¬ ∃ u ∈ seen ++ [v], fst? y.t = some u := by
          rintro ⟨u, hu, e⟩
          rcases List.mem_append.1 hu with hu | hu
          · exact h2 ⟨u, hu, e⟩
          · rw [List.mem_singleton.1 hu] at e; exact h1 e
        rw [if_neg (by rw [decide_eq_false h3]; simp), if_neg (by rw [decide_eq_false h2]; simp), if_neg (by rw [decide_eq_false h1]; simp), ih]
theorem mom_byP {Q : Tp → Bool} (ws : List RR) (t : Tp) (k : Nat) : mom (rows (ws.filter fun y => Q y.t)) t k = (Q t && mom (rows ws) t k) := mom_filter Q ws t k
theorem part_is {n : Nat} (hw : CanOf (xs.filter fun x => decide (x.t.length = n)) ws) (hz : CanOf (xs.filter fun x => decide (x.t.length = n) && decide (fst? x.t = some v)) zs) : rows zs = rows (ws.filter fun y => decide (fst? y.t = some v)) := by
  refine same_of hz.can (can_filter hw.can) fun t k hk => ?_
  rw [hz.mom t k hk, mom_filter (fun t => decide (t.length = n) && decide (fst? t = some v)), mom_filter (fun t => decide (fst? t = some v)), hw.mom t k hk, mom_filter (fun t => decide (t.length = n)), ← Bool.and_assoc, Bool.and_comm (decide (t.length = n))]
theorem SelI.fresh {n : Nat} (h : SelI ws i seen cnt ps) (hx : ws[i]? = some x) (hv : fst? x.t = some v) (hs : v ∉ seen) (hw : CanOf (xs.filter fun x => decide (x.t.length = n)) ws) (hz : CanOf (xs.filter fun x => decide (x.t.length = n) && decide (fst? x.t = some v)) zs) (hq : OpOf opU ps zs qs) : SelI ws (i + 1) (seen ++ [v]) (cnt + zs.length) qs := by
  have hp := part_is hw hz
  refine ⟨fun u => ?_, ?_, ?_⟩
  · rw [List.mem_append, List.mem_singleton, h.saw u, take_succ' hx]
    constructor
    · rintro (⟨y, hy, e⟩ | rfl)
      · exact ⟨y, List.mem_append_left _ hy, e⟩
      · exact ⟨x, by simp, hv⟩
    · rintro ⟨y, hy, e⟩
      rcases List.mem_append.1 hy with hy | hy
      · exact .inl ⟨y, hy, e⟩
      · rw [List.mem_singleton.1 hy, hv] at e
        cases e
        exact .inr rfl
  · rw [byFst_more hs, ← h.num]
    have := congrArg List.length hp
    rw [rows_length, rows_length] at this
    omega
  · refine same_of hq.can (can_filter hw.can) fun t k hk => ?_
    rw [hq.mom t k hk, h.alike, hp]
    unfold byFst
    rw [mom_filter (fun t => decide (∃ v ∈ seen, fst? t = some v)), mom_filter (fun t => decide (fst? t = some v)), mom_filter (fun t => decide (∃ u ∈ seen ++ [v], fst? t = some u))]
    unfold opU
    rw [← Bool.and_or_distrib_right]
    congr 1
    rw [Bool.eq_iff_iff, Bool.or_eq_true, decide_eq_true_iff, decide_eq_true_iff, decide_eq_true_iff]
    constructor
    · rintro (⟨u, hu, e⟩ | e)
      · exact ⟨u, List.mem_append_left _ hu, e⟩
      · exact ⟨v, by simp, e⟩
    · rintro ⟨u, hu, e⟩
      rcases List.mem_append.1 hu with hu | hu
      · exact .inl ⟨u, hu, e⟩
      · rw [List.mem_singleton.1 hu] at e; exact .inr e
theorem SelI.whole (h : SelI ws ws.length seen cnt ps) (hf : ∀ y ∈ ws, ∃ v, fst? y.t = some v) : cnt = ws.length ∧ rows ps = rows ws := by
  have : byFst seen ws = ws := by
    unfold byFst
    rw [List.filter_eq_self]
    intro y hy
    obtain ⟨v, e⟩ := hf y hy
    exact decide_eq_true ⟨v, (h.saw v).2 ⟨y, by rw [List.take_length]; exact hy, e⟩, e⟩
  rw [h.num, h.alike, this]
  exact ⟨rfl, rfl⟩
theorem SelI.sml {n : Nat} (h : SelI ws i seen cnt ps) (hw : Sml n ws) : Sml n ps ∧ cnt ≤ n := by
  have h1 : (byFst seen ws).length ≤ ws.length := List.length_filter_le _ _
  have h2 := congrArg List.length h.alike
  rw [rows_length, rows_length] at h2
  have := hw.len
  refine ⟨⟨by omega, fun y hy => ?_⟩, by rw [h.num]; omega⟩
  have h3 : y.rw ∈ rows (byFst seen ws) := by rw [← h.alike]; exact mem_rows.2 ⟨y, hy, rfl⟩
  obtain ⟨z, hz, e⟩ := mem_rows.1 h3
  have h4 := hw.each z (List.mem_filter.1 hz).1
  have e1 : z.t = y.t := congrArg Prod.fst e
  have e2 : z.s = y.s := congrArg Prod.snd e
  rw [← e1, ← e2]; exact h4
theorem lens {n : Nat} (hw : CanOf (xs.filter fun x => decide (x.t.length = n)) ws) : ∀ y ∈ ws, y.t.length = n := fun y hy => by
  have hc := hw.can
  obtain ⟨k, hk, e⟩ := ok_some (hc.2 y.rw (mem_rows.2 ⟨y, hy, rfl⟩))
  have h1 : mom (rows ws) y.t k = true := by
    unfold mom
    rw [List.any_eq_true]
    exact ⟨y.rw, mem_rows.2 ⟨y, hy, rfl⟩, by rw [Bool.and_eq_true, decide_eq_true_eq]; exact ⟨rfl, e⟩⟩
  rw [hw.mom _ k hk, mom_filter (fun t => decide (t.length = n)), Bool.and_eq_true, decide_eq_true_eq] at h1
  exact h1.1
theorem fst_of {n : Nat} {t : Tp} (h : t.length = n) (hn : 0 < n) : ∃ v, fst? t = some v := ⟨_, List.getElem?_eq_getElem (by omega)⟩
end
end Go.Proofs.YtdibijhaiaiifaaDoor
