/- Words for memory: slices that read as lists of records; sets of names in maps; what a call keeps. -/
import Derived.Test.YtnibgmmoebmnlaaProg
import Derived.WalkKit
import Derived.WalkSpells
import Derived.WalkLawsBesides
import Derived.Lib.Hide
import Derived.Deep.QuietTactic
import Derived.BigQuiet
import Derived.Maps.Own
import Derived.Maps.OwnSet
import Derived.Maps.AppendAt
import Derived.Deep.RegionLaw
import Derived.Deep.AppendLies
namespace Go.Proofs.Ytnibgmmoebmnlaa
open Go.RowKit
theorem cell_lt {w : World} {p : Addr} {v : Value} (h : w.cell? p = some v) : p.block < w.heap.size := by
  unfold World.cell? at h
  rcases Nat.lt_or_ge p.block w.heap.size with hlt | hge
  · exact hlt
  · rw [Array.getElem?_eq_none hge] at h; cases h
theorem cell_keep {w w' : World} {p : Addr} {v : Value} (hb : Below w.heap.size w w') (h : w.cell? p = some v) : w'.cell? p = some v := (hb.cell (cell_lt h)).trans h
theorem below_trans {w w1 w2 : World} (h : Below w.heap.size w w1) (k : Below w1.heap.size w1 w2) : Below w.heap.size w w2 := h.trans (k.mono h.size)
/-- Every cell that is there stays what it is. -/
def Keeps (w w' : World) : Prop := ∀ p v, w.cell? p = some v → w'.cell? p = some v
theorem Keeps.refl (w : World) : Keeps w w := fun _ _ h => h
theorem Keeps.trans {a b c : World} (h : Keeps a b) (k : Keeps b c) : Keeps a c := fun p v x => k p v (h p v x)
theorem keeps_below {w w' : World} (hb : Below w.heap.size w w') : Keeps w w' := fun _ _ h => cell_keep hb h
theorem ret_int {k : IntKind} {a b : Int} (h : a = b) : Ending.returned (.int k a) = .returned (.int k b) := by rw [h]
theorem ret_bool {a b : Bool} (h : a = b) : Ending.returned (.bool a) = .returned (.bool b) := by rw [h]
theorem ne_beq {a b : Int} (h : ¬a = b) : (a == b) = false := by simpa using h
theorem below_drewN {B : Nat} {a w : World} (h : Below B a w) (n : Nat) : Below B a (w.drewN n) := ⟨h.os, h.tape, h.output, h.size, h.block⟩
theorem quiet_left {P : Program} {f : FuncId} {args : Array Value} {w : World} {n : Nat} {v : Value}
    (h : Calls P f args (w.drewN n) fun e w' => e = .returned v ∧ w.drewN n = w') : Calls P f args (w.drewN n) fun e w'' => e = .returned v ∧ ∃ m, w'' = w.drewN m :=
  h.mono fun _ _ ⟨he, hm⟩ => ⟨he, n, hm.symm⟩
theorem own_from {w : World} {base : Nat} {e : TypeId} {size n : Nat} {v : Value} {xs : List Value} (h : w.ownsRow base e size v n xs) : ∀ k, v.ownBlock = some k → base ≤ k := by
  intro k hk
  rcases h.2 with ⟨rfl, _⟩ | ⟨g, cap, cur, rfl, hg, _⟩
  · simp [Value.ownBlock] at hk
  · have : g = k := by simpa [Value.ownBlock] using hk
    omega
/-- The slice at a (as wide as l) reads as the records l, each as enc lays it into k cells. -/
def RowsAt {α : Type} (k : Nat) (enc : α → List Value) (w : World) (a : Option Addr) (l : List α) : Prop :=
  l = [] ∨ ∃ b off, a = some ⟨b, off, none⟩ ∧ ∀ i x, l[i]? = some x → ∀ j u, (enc x)[j]? = some u → w.cell? ⟨b, off + i * k + j, none⟩ = some u
def IsRows {α : Type} (k : Nat) (enc : α → List Value) (w : World) (v : Value) (l : List α) : Prop :=
  ∃ a c, v = .slice a l.length c ∧ RowsAt k enc w a l ∧ l.length ≤ 9223372036854775807
theorem RowsAt.keep {α : Type} {k : Nat} {enc : α → List Value} {w w' : World} {a : Option Addr} {l : List α} (h : RowsAt k enc w a l) (hk : Keeps w w') : RowsAt k enc w' a l := by
  rcases h with h | ⟨b, off, ha, hc⟩
  · exact .inl h
  · exact .inr ⟨b, off, ha, fun i x hi j u hj => hk _ _ (hc i x hi j u hj)⟩
theorem IsRows.keep {α : Type} {k : Nat} {enc : α → List Value} {w w' : World} {v : Value} {l : List α} (h : IsRows k enc w v l) (hk : Keeps w w') : IsRows k enc w' v l := by
  obtain ⟨a, c, e, h, m⟩ := h
  exact ⟨a, c, e, h.keep hk, m⟩
theorem RowsAt.at_ {α : Type} {k : Nat} {enc : α → List Value} {w : World} {a : Option Addr} {l : List α} (h : RowsAt k enc w a l) {i : Nat} {x : α} (hi : l[i]? = some x) :
    ∃ b off, a = some ⟨b, off, none⟩ ∧ ∀ i x, l[i]? = some x → ∀ j u, (enc x)[j]? = some u → w.cell? ⟨b, off + i * k + j, none⟩ = some u := by
  rcases h with h | h
  · subst h; simp at hi
  · exact h
theorem flat_get {α : Type} {k : Nat} {enc : α → List Value} : ∀ (l : List α), (∀ x ∈ l, (enc x).length = k) → ∀ i x, l[i]? = some x → ∀ j u, (enc x)[j]? = some u → (l.flatMap enc)[i * k + j]? = some u
  | [], _, i, x, hi, _, _, _ => by simp at hi
  | y :: r, hl, 0, x, hi, j, u, hj => by
    obtain rfl : y = x := by simpa using hi
    rw [List.flatMap_cons, Nat.zero_mul, Nat.zero_add, List.getElem?_append_left]
    · exact hj
    · exact (List.getElem?_eq_some_iff.1 hj).1
  | y :: r, hl, i + 1, x, hi, j, u, hj => by
    have hy : (enc y).length = k := hl y (by simp)
    rw [List.flatMap_cons, List.getElem?_append_right (by rw [hy, Nat.add_mul]; omega), hy]
    rw [show (i + 1) * k + j - k = i * k + j from by rw [Nat.add_mul]; omega]
    exact flat_get r (fun z hz => hl z (by simp [hz])) i x (by simpa using hi) j u hj
/-- What a call owns reads as a list. -/
theorem IsRows.of_owns {α : Type} {k : Nat} {enc : α → List Value} {w : World} {base : Nat} {e : TypeId} {v : Value} {l : List α} (h : w.ownsRow base e k v l.length (l.flatMap enc)) (hl : ∀ x ∈ l, (enc x).length = k) (hm : l.length ≤ 9223372036854775807) : IsRows k enc w v l := by
  rcases h.2 with ⟨rfl, h0⟩ | ⟨g, cap, cur, hv, _⟩
  · have : l = [] := List.eq_nil_of_length_eq_zero h0
    subst this
    exact ⟨none, 0, rfl, .inl rfl, hm⟩
  · refine ⟨some ⟨g, 0, none⟩, cap, hv, .inr ⟨g, 0, rfl, fun i x hi j u hj => ?_⟩, hm⟩
    have hc := h.cells (g := g) (by rw [hv]; rfl) (i * k + j) u (flat_get l hl i x hi j u hj)
    have hadd : (⟨g, 0, none⟩ : Addr).add (i * k + j) = ⟨g, 0 + i * k + j, none⟩ := by
      unfold Addr.add; split
      · rename_i h0; rw [Nat.add_assoc, h0]
      · simp
    rwa [hadd] at hc
/-! ### names -/
/-- A name: a string that Go can hold. -/
structure Nm where
  val : ByteArray
  ok : val.size ≤ maxLen
theorem Nm.ext {x y : Nm} (h : x.1 = y.1) : x = y := by
  cases x; cases y; simp at h; subst h; rfl
instance : DecidableEq Nm := fun x y => if h : x.1 = y.1 then isTrue (Nm.ext h) else isFalse fun e => h (congrArg Nm.val e)
def noName : Nm := ⟨⟨#[]⟩, by decide⟩
def encS (s : Nm) : List Value := [.string s.1]
def IsNames (w : World) (v : Value) (l : List Nm) : Prop := IsRows 1 encS w v l
theorem IsNames.keep {w w' : World} {v : Value} {l : List Nm} (h : IsNames w v l) (hk : Keeps w w') : IsNames w' v l := IsRows.keep h hk
def encI (n : Int) : List Value := [.int .i64 n]
def IsInts (w : World) (v : Value) (l : List Int) : Prop := IsRows 1 encI w v l
theorem IsInts.keep {w w' : World} {v : Value} {l : List Int} (h : IsInts w v l) (hk : Keeps w w') : IsInts w' v l := IsRows.keep h hk
theorem RowsAt.one {α : Type} {enc : α → List Value} {w : World} {a : Option Addr} {l : List α} (h : RowsAt 1 enc w a l) {i : Nat} {x : α} {u : Value} (hi : l[i]? = some x) (he : enc x = [u]) :
    ∃ b off, a = some ⟨b, off, none⟩ ∧ w.cell? ⟨b, off + i, none⟩ = some u := by
  obtain ⟨b, off, ha, hc⟩ := h.at_ hi
  refine ⟨b, off, ha, ?_⟩
  have := hc i x hi 0 u (by rw [he]; rfl)
  simpa using this
/-! ### sets of names -/
def SetAt (w : World) (b n : Nat) (s : Nm → Bool) : Prop := ∃ D : DataW Unit, w.ownsMap Try.prog 9 unitElem b n D ∧ ∀ x : Nm, Maps.has D (.string x.1.data.toList) = s x
theorem keyed9 : Maps.Keyed Try.prog 9 := Maps.string_keyed Try.underlying9
theorem zero80 (w : World) : (zeroValue 80).run Try.prog w = .ok (.agg #[]) w := by kernel_rfl
theorem SetAt.made (w : World) : SetAt (w.alloc (.map #[] 0)) w.heap.size 0 (fun _ => false) := ⟨_, World.ownsMap_made _ _ _ _, fun _ => rfl⟩
theorem SetAt.mono {w : World} {b n m : Nat} {s : Nm → Bool} (h : SetAt w b n s) (hm : n ≤ m) : SetAt w b m s := let ⟨D, h1, h2⟩ := h; ⟨D, h1.mono hm, h2⟩
theorem SetAt.kept {w w' : World} {b n : Nat} {row : Option Nat} {s : Nm → Bool} (h : SetAt w b n s) (hg : w.grownBy w' row) (hne : some b ≠ row) : SetAt w' b n s := let ⟨D, h1, h2⟩ := h; ⟨D, h1.kept hg hne, h2⟩
theorem SetAt.lt {w : World} {b n : Nat} {s : Nm → Bool} (h : SetAt w b n s) : b < w.heap.size := let ⟨_, h1, _⟩ := h; h1.lt
theorem SetAt.alloc {w : World} {b n : Nat} {s : Nm → Bool} (h : SetAt w b n s) (o : Obj) : SetAt (w.alloc o) b n s := let ⟨D, h1, h2⟩ := h; ⟨D, h1.alloc o, h2⟩
theorem SetAt.drewN {w : World} {b n : Nat} {s : Nm → Bool} (h : SetAt w b n s) (m : Nat) : SetAt (w.drewN m) b n s := let ⟨D, h1, h2⟩ := h; ⟨D, h1, h2⟩
theorem SetAt.setCell {w : World} {b n : Nat} {s : Nm → Bool} (h : SetAt w b n s) {a : Addr} (ha : b ≠ a.block) (u : Value) : SetAt (w.setCell a u) b n s := let ⟨D, h1, h2⟩ := h; ⟨D, h1.setCell ha u, h2⟩
theorem SetAt.keep {w w' : World} {b n : Nat} {s : Nm → Bool} (h : SetAt w b n s) (hb : Below w.heap.size w w') : SetAt w' b n s :=
  h.kept (row := none) ⟨hb.os, hb.tape, hb.output, hb.size, fun i hi _ => hb.block i hi⟩ (by simp)
theorem SetAt.congr {w : World} {b n : Nat} {s t : Nm → Bool} (h : SetAt w b n s) (e : ∀ x, s x = t x) : SetAt w b n t := let ⟨D, h1, h2⟩ := h; ⟨D, h1, fun x => (h2 x).trans (e x)⟩
theorem SetAt.not_cell {w : World} {b n : Nat} {s : Nm → Bool} (h : SetAt w b n s) {p : Addr} {v : Value} (hc : w.cell? p = some v) : p.block ≠ b := by
  rintro rfl
  obtain ⟨D, ⟨es, clock, hb, _⟩, _⟩ := h
  unfold World.cell? at hc
  rw [hb] at hc
  simp at hc
theorem SetAt.keeps {w w' : World} {b n : Nat} {s : Nm → Bool} (h : SetAt w b n s) (hg : w.grownBy w' (some b)) : Keeps w w' :=
  fun p v hc => hg.cell hc (by have := h.not_cell hc; simpa using this)
theorem bytes_inj {x y : Nm} (h : x.1.data.toList = y.1.data.toList) : x = y := by
  obtain ⟨⟨x⟩, hx⟩ := x
  obtain ⟨⟨y⟩, hy⟩ := y
  simp at h; subst h; rfl
theorem keyOf9 (x : Nm) : keyOf Try.prog 9 (.string x.1) = some (.string x.1.data.toList) := by
  unfold keyOf
  rw [Try.underlying9]
  simp [mapKey, Try.underlying9, x.2]
def addOne (s : Nm → Bool) (x : Nm) : Nm → Bool := fun y => decide (y = x) || s y
theorem has_put {D : DataW Unit} (hD : Maps.IsMap D) {s : Nm → Bool} (h : ∀ x : Nm, Maps.has D (.string x.1.data.toList) = s x) (x : Nm) (d : DataW Unit) :
    ∀ y : Nm, Maps.has (D.put (.string x.1.data.toList) d) (.string y.1.data.toList) = addOne s x y := by
  intro y
  unfold addOne
  by_cases e : y = x
  · subst e
    rw [Maps.has_put_same hD (keyed9.key (keyOf9 y))]; simp
  · rw [Maps.has_put_other (fun h => e (bytes_inj (by injection h))), h]; simp [e]
/-! ### records -/
/-- A term: its variable, and the cells of its constant. -/
structure Tm where
  var : Nm
  ty : Int
  n : Int
  s : Nm
def encT (t : Tm) : List Value := [.string t.var.1, .int .i64 t.ty, .int .i64 t.n, .string t.s.1]
def termV (t : Tm) : Value := .agg #[.string t.var.1, .int .i64 t.ty, .int .i64 t.n, .string t.s.1]
def IsTerms (w : World) (v : Value) (l : List Tm) : Prop := IsRows 4 encT w v l
theorem IsTerms.keep {w w' : World} {v : Value} {l : List Tm} (h : IsTerms w v l) (hk : Keeps w w') : IsTerms w' v l := IsRows.keep h hk
theorem terms_at {w : World} {a : Option Addr} {l : List Tm} (h : RowsAt 4 encT w a l) {i : Nat} {t : Tm} (hi : l[i]? = some t) :
    ∃ b off, a = some ⟨b, off, none⟩ ∧ w.cell? ⟨b, off + i * 4, none⟩ = some (.string t.var.1) ∧ w.cell? ⟨b, off + i * 4 + 1, none⟩ = some (.int .i64 t.ty) ∧ w.cell? ⟨b, off + i * 4 + 2, none⟩ = some (.int .i64 t.n) ∧ w.cell? ⟨b, off + i * 4 + 3, none⟩ = some (.string t.s.1) := by
  obtain ⟨b, off, ha, hc⟩ := h.at_ hi
  have hc := hc i t hi
  exact ⟨b, off, ha, hc 0 _ rfl, hc 1 _ rfl, hc 2 _ rfl, hc 3 _ rfl⟩
/-- A literal: its cells, and the terms that its arguments are. -/
structure Lt where
  kind : Int
  name : Nm
  pred : Int
  args : Value
  targs : List Tm
  bind : Nm
  elem : Nm
  least : Int
  op : Int
  at_ : Int
def encL (l : Lt) : List Value := [.int .i64 l.kind, .string l.name.1, .int .i64 l.pred, l.args, .string l.bind.1, .string l.elem.1, .int .i64 l.least, .int .i64 l.op, .int .i64 l.at_]
def litV (l : Lt) : Value := .agg #[.int .i64 l.kind, .string l.name.1, .int .i64 l.pred, l.args, .string l.bind.1, .string l.elem.1, .int .i64 l.least, .int .i64 l.op, .int .i64 l.at_]
def LitOk (w : World) (l : Lt) : Prop := IsTerms w l.args l.targs
theorem LitOk.keep {w w' : World} {l : Lt} (h : LitOk w l) (hk : Keeps w w') : LitOk w' l := IsTerms.keep h hk
def IsLits (w : World) (v : Value) (l : List Lt) : Prop := IsRows 9 encL w v l ∧ ∀ x ∈ l, LitOk w x
theorem IsLits.keep {w w' : World} {v : Value} {l : List Lt} (h : IsLits w v l) (hk : Keeps w w') : IsLits w' v l := ⟨IsRows.keep h.1 hk, fun x hx => (h.2 x hx).keep hk⟩
theorem lits_at {w : World} {a : Option Addr} {l : List Lt} (h : RowsAt 9 encL w a l) {i : Nat} {t : Lt} (hi : l[i]? = some t) :
    ∃ b off, a = some ⟨b, off, none⟩ ∧ w.cell? ⟨b, off + i * 9, none⟩ = some (.int .i64 t.kind) ∧ w.cell? ⟨b, off + i * 9 + 1, none⟩ = some (.string t.name.1) ∧ w.cell? ⟨b, off + i * 9 + 2, none⟩ = some (.int .i64 t.pred) ∧ w.cell? ⟨b, off + i * 9 + 3, none⟩ = some t.args
      ∧ w.cell? ⟨b, off + i * 9 + 4, none⟩ = some (.string t.bind.1) ∧ w.cell? ⟨b, off + i * 9 + 5, none⟩ = some (.string t.elem.1) ∧ w.cell? ⟨b, off + i * 9 + 6, none⟩ = some (.int .i64 t.least) ∧ w.cell? ⟨b, off + i * 9 + 7, none⟩ = some (.int .i64 t.op) ∧ w.cell? ⟨b, off + i * 9 + 8, none⟩ = some (.int .i64 t.at_) := by
  obtain ⟨b, off, ha, hc⟩ := h.at_ hi
  have hc := hc i t hi
  exact ⟨b, off, ha, hc 0 _ rfl, hc 1 _ rfl, hc 2 _ rfl, hc 3 _ rfl, hc 4 _ rfl, hc 5 _ rfl, hc 6 _ rfl, hc 7 _ rfl, hc 8 _ rfl⟩
/-- A rule. -/
structure Rl where
  name : Nm
  pred : Int
  args : Value
  targs : List Tm
  ekind : Int
  ename : Nm
  evar : Nm
  eindex : Int
  body : Value
  lits : List Lt
  at_ : Int
def encR (r : Rl) : List Value := [.string r.name.1, .int .i64 r.pred, r.args, .int .i64 r.ekind, .string r.ename.1, .string r.evar.1, .int .i64 r.eindex, r.body, .int .i64 r.at_]
def ruleV (r : Rl) : Value := .agg #[.string r.name.1, .int .i64 r.pred, r.args, .int .i64 r.ekind, .string r.ename.1, .string r.evar.1, .int .i64 r.eindex, r.body, .int .i64 r.at_]
def RuleOk (w : World) (r : Rl) : Prop := IsTerms w r.args r.targs ∧ IsLits w r.body r.lits
theorem RuleOk.keep {w w' : World} {r : Rl} (h : RuleOk w r) (hk : Keeps w w') : RuleOk w' r := ⟨h.1.keep hk, h.2.keep hk⟩
def IsRules (w : World) (v : Value) (l : List Rl) : Prop := IsRows 9 encR w v l ∧ ∀ x ∈ l, RuleOk w x
theorem IsRules.keep {w w' : World} {v : Value} {l : List Rl} (h : IsRules w v l) (hk : Keeps w w') : IsRules w' v l := ⟨IsRows.keep h.1 hk, fun x hx => (h.2 x hx).keep hk⟩
theorem rules_at {w : World} {a : Option Addr} {l : List Rl} (h : RowsAt 9 encR w a l) {i : Nat} {t : Rl} (hi : l[i]? = some t) :
    ∃ b off, a = some ⟨b, off, none⟩ ∧ w.cell? ⟨b, off + i * 9, none⟩ = some (.string t.name.1) ∧ w.cell? ⟨b, off + i * 9 + 1, none⟩ = some (.int .i64 t.pred) ∧ w.cell? ⟨b, off + i * 9 + 2, none⟩ = some t.args ∧ w.cell? ⟨b, off + i * 9 + 3, none⟩ = some (.int .i64 t.ekind)
      ∧ w.cell? ⟨b, off + i * 9 + 4, none⟩ = some (.string t.ename.1) ∧ w.cell? ⟨b, off + i * 9 + 5, none⟩ = some (.string t.evar.1) ∧ w.cell? ⟨b, off + i * 9 + 6, none⟩ = some (.int .i64 t.eindex) ∧ w.cell? ⟨b, off + i * 9 + 7, none⟩ = some t.body ∧ w.cell? ⟨b, off + i * 9 + 8, none⟩ = some (.int .i64 t.at_) := by
  obtain ⟨b, off, ha, hc⟩ := h.at_ hi
  have hc := hc i t hi
  exact ⟨b, off, ha, hc 0 _ rfl, hc 1 _ rfl, hc 2 _ rfl, hc 3 _ rfl, hc 4 _ rfl, hc 5 _ rfl, hc 6 _ rfl, hc 7 _ rfl, hc 8 _ rfl⟩
/-- A cell of a block that the call made, in a later world. -/
theorem boxed {w w' : World} {cs : Array Value} {t : TypeId} {j : Nat} {v : Value} (hv : cs[j]? = some v) (hb : Below (w.alloc (.cells cs t)).heap.size (w.alloc (.cells cs t)) w') : w'.cell? ⟨w.heap.size, j, none⟩ = some v := by
  have e : (w.alloc (.cells cs t)).heap[w.heap.size]? = some (.cells cs t) := heap_alloc_new w _
  refine cell_keep hb ?_
  rw [cell_of_row _ w.heap.size j _ t (0, 0) e]
  exact hv
end Go.Proofs.Ytnibgmmoebmnlaa
