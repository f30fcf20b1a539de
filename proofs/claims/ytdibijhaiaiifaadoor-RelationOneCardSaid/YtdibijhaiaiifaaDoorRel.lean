/- Tuples, their order, relations over moments: the plain mathematics, no program in sight. -/
import Derived.Test.YtdibijhaiaiifaaDoorWords
namespace Go.Proofs.YtdibijhaiaiifaaDoor
/-! ### Comparisons -/
structure IsCmp {α : Type} (f : α → α → Int) : Prop where
  val : ∀ x y, f x y = -1 ∨ f x y = 0 ∨ f x y = 1
  eq : ∀ x y, f x y = 0 ↔ x = y
  anti : ∀ x y, f y x = - f x y
  trans : ∀ x y z, f x y < 0 → f y z < 0 → f x z < 0
def cmpI (a b : Int) : Int := if a < b then -1 else if b < a then 1 else 0
theorem cmpI_is : IsCmp cmpI where
  val := fun x y => by unfold cmpI; split <;> (try split) <;> simp
  eq := fun x y => by unfold cmpI; split <;> (try split) <;> simp <;> omega
  anti := fun x y => by unfold cmpI; split <;> split <;> (try split) <;> omega
  trans := fun x y z h k => by
    unfold cmpI at *
    split at h
    · split at k
      · rw [if_pos (by omega)]; omega
      · split at k <;> omega
    · split at h <;> omega
/-- Lists by a comparison of their elements. -/
def cmpL {α : Type} (f : α → α → Int) : List α → List α → Int
  | [], [] => 0
  | [], _ :: _ => -1
  | _ :: _, [] => 1
  | x :: a, y :: b => if f x y = 0 then cmpL f a b else f x y
theorem cmpL_is {α : Type} {f : α → α → Int} (hf : IsCmp f) : IsCmp (cmpL f) where
  val := fun a => by
    induction a with
    | nil => intro b; cases b <;> simp [cmpL]
    | cons x a ih =>
      intro b
      cases b with
      | nil => simp [cmpL]
      | cons y b =>
        rw [cmpL]
        split
        · exact ih b
        · exact hf.val x y
  eq := fun a => by
    induction a with
    | nil => intro b; cases b <;> simp [cmpL]
    | cons x a ih =>
      intro b
      cases b with
      | nil => simp [cmpL]
      | cons y b =>
        rw [cmpL]
        split
        · rename_i h
          rw [ih b]
          have := (hf.eq x y).1 h
          subst this
          simp
        · rename_i h
          constructor
          · intro h'; exact absurd h' h
          · intro e
            simp only [List.cons.injEq] at e
            exact absurd ((hf.eq x y).2 e.1) h
  anti := fun a => by
    induction a with
    | nil => intro b; cases b <;> simp [cmpL]
    | cons x a ih =>
      intro b
      cases b with
      | nil => simp [cmpL]
      | cons y b =>
        rw [cmpL, cmpL, hf.anti x y]
        by_cases h : f x y = 0
        · rw [if_pos (by omega), if_pos h, ih b]
        · rw [if_neg (by omega), if_neg h]
  trans := fun a => by
    induction a with
    | nil =>
      intro b c h k
      cases b with
      | nil => simp [cmpL] at h
      | cons y b =>
        cases c with
        | nil => simp [cmpL] at k
        | cons z c => simp [cmpL]
    | cons x a ih =>
      intro b c h k
      cases b with
      | nil => simp [cmpL] at h
      | cons y b =>
        cases c with
        | nil => simp [cmpL] at k
        | cons z c =>
          rw [cmpL] at h k ⊢
          by_cases h1 : f x y = 0
          · rw [if_pos h1] at h
            have e := (hf.eq x y).1 h1
            subst e
            by_cases h2 : f x z = 0
            · rw [if_pos h2] at k ⊢
              exact ih b c h k
            · rw [if_neg h2] at k ⊢
              exact k
          · rw [if_neg h1] at h
            by_cases h2 : f y z = 0
            · have e := (hf.eq y z).1 h2
              subst e
              rw [if_neg h1]; exact h
            · rw [if_neg h2] at k
              have h3 := hf.trans x y z h k
              rw [if_neg (by omega)]; exact h3
def cmpB (x y : UInt8) : Int := cmpI x.toNat y.toNat
theorem cmpB_is : IsCmp cmpB where
  val := fun x y => cmpI_is.val _ _
  eq := fun x y => by
    unfold cmpB
    rw [cmpI_is.eq]
    constructor
    · intro h; exact UInt8.toNat_inj.1 (by omega)
    · intro h; rw [h]
  anti := fun x y => cmpI_is.anti _ _
  trans := fun x y z => cmpI_is.trans _ _ _
/-! ### Values -/
structure Vl where
  t : Int
  n : Int
  s : List UInt8
  ok : s.length ≤ 9223372036854775807
theorem Vl.ext' {a b : Vl} (h : a.t = b.t) (k : a.n = b.n) (l : a.s = b.s) : a = b := by cases a; cases b; simp at h k l; subst h k l; rfl
instance : DecidableEq Vl := fun a b => if h : a.t = b.t ∧ a.n = b.n ∧ a.s = b.s then isTrue (Vl.ext' h.1 h.2.1 h.2.2) else isFalse fun e => h (by subst e; exact ⟨rfl, rfl, rfl⟩)
def cmpV (a b : Vl) : Int := if cmpI a.t b.t = 0 then (if cmpI a.n b.n = 0 then cmpL cmpB a.s b.s else cmpI a.n b.n) else cmpI a.t b.t
theorem cmpV_is : IsCmp cmpV where
  val := fun a b => by
    unfold cmpV
    split
    · split
      · exact (cmpL_is cmpB_is).val _ _
      · exact cmpI_is.val _ _
    · exact cmpI_is.val _ _
  eq := fun a b => by
    unfold cmpV
    split
    · rename_i h1
      have e1 := (cmpI_is.eq _ _).1 h1
      split
      · rename_i h2
        have e2 := (cmpI_is.eq _ _).1 h2
        rw [(cmpL_is cmpB_is).eq]
        exact ⟨fun e => Vl.ext' e1 e2 e, fun e => by rw [e]⟩
      · rename_i h2
        exact ⟨fun e => absurd e h2, fun e => absurd ((cmpI_is.eq _ _).2 (by rw [e])) h2⟩
    · rename_i h1
      exact ⟨fun e => absurd e h1, fun e => absurd ((cmpI_is.eq _ _).2 (by rw [e])) h1⟩
  anti := fun a b => by
    unfold cmpV
    rw [cmpI_is.anti a.t b.t, cmpI_is.anti a.n b.n, (cmpL_is cmpB_is).anti a.s b.s]
    by_cases h1 : cmpI a.t b.t = 0
    · rw [if_pos (by omega), if_pos h1]
      by_cases h2 : cmpI a.n b.n = 0
      · rw [if_pos (by omega), if_pos h2]
      · rw [if_neg (by omega), if_neg h2]
    · rw [if_neg (by omega), if_neg h1]
  trans := fun a b c h k => by
    unfold cmpV at *
    by_cases h1 : cmpI a.t b.t = 0
    · have e1 := (cmpI_is.eq _ _).1 h1
      rw [if_pos h1] at h
      rw [e1]
      by_cases k1 : cmpI b.t c.t = 0
      · rw [if_pos k1] at k ⊢
        by_cases h2 : cmpI a.n b.n = 0
        · have e2 := (cmpI_is.eq _ _).1 h2
          rw [if_pos h2] at h
          rw [e2]
          by_cases k2 : cmpI b.n c.n = 0
          · rw [if_pos k2] at k ⊢
            exact (cmpL_is cmpB_is).trans _ _ _ h k
          · rw [if_neg k2] at k ⊢
            exact k
        · rw [if_neg h2] at h
          by_cases k2 : cmpI b.n c.n = 0
          · have e2 := (cmpI_is.eq _ _).1 k2
            rw [← e2, if_neg h2]; exact h
          · rw [if_neg k2] at k
            have := cmpI_is.trans _ _ _ h k
            rw [if_neg (by omega)]; exact this
      · rw [if_neg k1] at k ⊢
        exact k
    · rw [if_neg h1] at h
      by_cases k1 : cmpI b.t c.t = 0
      · have e1 := (cmpI_is.eq _ _).1 k1
        rw [← e1, if_neg h1]; exact h
      · rw [if_neg k1] at k
        have := cmpI_is.trans _ _ _ h k
        rw [if_neg (by omega)]; exact this
/-! ### Tuples -/
abbrev Tp := List Vl
def cmpT (a b : Tp) : Int := cmpL cmpV a b
theorem cmpT_is : IsCmp cmpT := cmpL_is cmpV_is
theorem IsCmp.refl {α : Type} {f : α → α → Int} (h : IsCmp f) (x : α) : f x x = 0 := (h.eq x x).2 rfl
theorem IsCmp.lt_le {α : Type} {f : α → α → Int} (h : IsCmp f) {x y z : α} (a : f x y < 0) (b : f y z ≤ 0) : f x z < 0 := by
  rcases Int.lt_or_eq_of_le b with b | b
  · exact h.trans _ _ _ a b
  · rw [← (h.eq y z).1 b]; exact a
theorem IsCmp.le_lt {α : Type} {f : α → α → Int} (h : IsCmp f) {x y z : α} (a : f x y ≤ 0) (b : f y z < 0) : f x z < 0 := by
  rcases Int.lt_or_eq_of_le a with a | a
  · exact h.trans _ _ _ a b
  · rw [(h.eq x y).1 a]; exact b
theorem IsCmp.le_trans {α : Type} {f : α → α → Int} (h : IsCmp f) {x y z : α} (a : f x y ≤ 0) (b : f y z ≤ 0) : f x z ≤ 0 := by
  rcases Int.lt_or_eq_of_le a with a | a
  · exact Int.le_of_lt (h.lt_le a b)
  · rw [(h.eq x y).1 a]; exact b
theorem IsCmp.total {α : Type} {f : α → α → Int} (h : IsCmp f) (x y : α) : f x y ≤ 0 ∨ f y x < 0 := by
  have := h.anti x y
  omega
/-! ### Relations -/
abbrev Rw := Tp × List Sp
/-- Whether a tuple holds at a moment. -/
def mom (r : List Rw) (t : Tp) (k : Nat) : Bool := r.any fun x => decide (x.1 = t) && setOf x.2 k
theorem mom_nil (t : Tp) (k : Nat) : mom [] t k = false := rfl
theorem mom_cons (x : Rw) (r : List Rw) (t : Tp) (k : Nat) : mom (x :: r) t k = ((decide (x.1 = t) && setOf x.2 k) || mom r t k) := rfl
theorem mom_append (a b : List Rw) (t : Tp) (k : Nat) : mom (a ++ b) t k = (mom a t k || mom b t k) := by simp [mom, List.any_append]
theorem mom_perm {a b : List Rw} (h : a.Perm b) (t : Tp) (k : Nat) : mom a t k = mom b t k := by
  unfold mom
  rw [Bool.eq_iff_iff, List.any_eq_true, List.any_eq_true]
  exact ⟨fun ⟨x, hx, e⟩ => ⟨x, h.mem_iff.1 hx, e⟩, fun ⟨x, hx, e⟩ => ⟨x, h.mem_iff.2 hx, e⟩⟩
/-- Tuples that grow. -/
def Up : List Rw → Prop
  | [] => True
  | x :: r => (∀ y ∈ r, cmpT x.1 y.1 < 0) ∧ Up r
/-- Spans that are canonical and not none. -/
def OkW (l : List Sp) : Prop := l ≠ [] ∧ canon (setOf l) = l
def IsCan (r : List Rw) : Prop := Up r ∧ ∀ x ∈ r, OkW x.2
theorem mom_none {r : List Rw} {t : Tp} (h : ∀ y ∈ r, cmpT t y.1 < 0) (k : Nat) : mom r t k = false := by
  unfold mom
  rw [List.any_eq_false]
  intro x hx
  have h1 := h x hx
  have : x.1 ≠ t := fun e => by rw [e, cmpT_is.refl] at h1; omega
  simp [this]
theorem mom_head {x : Rw} {r : List Rw} (h : Up (x :: r)) (k : Nat) : mom (x :: r) x.1 k = setOf x.2 k := by
  rw [mom_cons, mom_none h.1, decide_eq_true rfl, Bool.true_and, Bool.or_false]
theorem mom_tail {x : Rw} {r : List Rw} {t : Tp} (h : x.1 ≠ t) (k : Nat) : mom (x :: r) t k = mom r t k := by
  rw [mom_cons, decide_eq_false h, Bool.false_and, Bool.false_or]
theorem ok_some {l : List Sp} (h : OkW l) : ∃ k, k < 64 ∧ setOf l k = true := by
  refine Classical.byContradiction fun hn => h.1 ?_
  rw [← h.2, canon_ext (T := fun _ => false) fun k hk => ?_]
  · decide
  · cases e : setOf l k with
    | false => rfl
    | true => exact absurd ⟨k, hk, e⟩ hn
/-- A canonical relation is known by its moments. -/
theorem can_ext : ∀ (a b : List Rw), IsCan a → IsCan b → (∀ t k, k < 64 → mom a t k = mom b t k) → a = b
  | [], [], _, _, _ => rfl
  | [], y :: b, _, hb, h => by
    obtain ⟨k, hk, e⟩ := ok_some (hb.2 y (by simp))
    have := h y.1 k hk
    rw [mom_head hb.1, e, mom_nil] at this
    cases this
  | x :: a, [], ha, _, h => by
    obtain ⟨k, hk, e⟩ := ok_some (ha.2 x (by simp))
    have := h x.1 k hk
    rw [mom_head ha.1, e, mom_nil] at this
    cases this
  | x :: a, y :: b, ha, hb, h => by
    have hxy : x.1 = y.1 := by
      rcases cmpT_is.total x.1 y.1 with hle | hlt
      · rcases Int.lt_or_eq_of_le hle with hlt | he
        · obtain ⟨k, hk, e⟩ := ok_some (ha.2 x (by simp))
          have := h x.1 k hk
          rw [mom_head ha.1, e, mom_none fun z hz => ?_] at this
          · cases this
          · rcases List.mem_cons.1 hz with rfl | hz
            · exact hlt
            · exact cmpT_is.trans _ _ _ hlt (hb.1.1 z hz)
        · exact (cmpT_is.eq _ _).1 he
      · obtain ⟨k, hk, e⟩ := ok_some (hb.2 y (by simp))
        have := h y.1 k hk
        rw [mom_head hb.1, e, mom_none fun z hz => ?_] at this
        · cases this
        · rcases List.mem_cons.1 hz with rfl | hz
          · exact hlt
          · exact cmpT_is.trans _ _ _ hlt (ha.1.1 z hz)
    have hw : x.2 = y.2 := by
      rw [← (ha.2 x (by simp)).2, ← (hb.2 y (by simp)).2]
      refine canon_ext fun k hk => ?_
      rw [← mom_head ha.1, ← mom_head hb.1, hxy]
      have := h y.1 k hk
      exact this
    have ht : a = b := can_ext a b ⟨ha.1.2, fun z hz => ha.2 z (by simp [hz])⟩ ⟨hb.1.2, fun z hz => hb.2 z (by simp [hz])⟩ fun t k hk => by
      by_cases e : x.1 = t
      · subst e
        rw [mom_none ha.1.1, hxy, mom_none hb.1.1]
      · rw [← mom_tail (r := a) e, h t k hk, mom_tail (by rw [← hxy]; exact e)]
    have : x = y := Prod.ext hxy hw
    rw [this, ht]
/-! ### A sorted list's runs -/
def Sorted : List Rw → Prop
  | [] => True
  | x :: r => (∀ y ∈ r, cmpT x.1 y.1 ≤ 0) ∧ Sorted r
/-- The spans of the rows at the head that have a tuple, and the rows behind them. -/
def headW (t : Tp) : List Rw → List Sp
  | [] => []
  | x :: r => if cmpT t x.1 = 0 then x.2 ++ headW t r else []
def headN (t : Tp) : List Rw → Nat
  | [] => 0
  | x :: r => if cmpT t x.1 = 0 then headN t r + 1 else 0
theorem headN_le (t : Tp) : ∀ r, headN t r ≤ r.length
  | [] => Nat.le_refl _
  | x :: r => by
    rw [headN]
    split
    · have := headN_le t r; simp; omega
    · simp
/-- What canonical makes of a sorted list, n rows at most. -/
def group : Nat → List Rw → List Rw
  | 0, _ => []
  | _ + 1, [] => []
  | n + 1, x :: r => if canon (setOf (headW x.1 (x :: r))) = [] then group n ((x :: r).drop (headN x.1 (x :: r))) else (x.1, canon (setOf (headW x.1 (x :: r)))) :: group n ((x :: r).drop (headN x.1 (x :: r)))
end Go.Proofs.YtdibijhaiaiifaaDoor
