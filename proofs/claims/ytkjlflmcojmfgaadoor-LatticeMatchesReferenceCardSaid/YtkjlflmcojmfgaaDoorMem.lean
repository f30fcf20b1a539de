/- Words for memory: slices of strings, numbers, pairs; lattices; the key words. -/
import Derived.Test.YtkjlflmcojmfgaaDoorProg
import Derived.Test.YtkjlflmcojmfgaaDoorMath
import Derived.Test.YtkjlflmcojmfgaaDoorBits
import Derived.WalkKit
import Derived.WalkSpells
import Derived.WalkLawsBesides
import Derived.Lib.Hide
import Derived.Deep.CutRange
import Derived.Lib.Strings
import Derived.Deep.QuietTactic
import Derived.BigQuiet
import Derived.Maps.AppendAt
import Derived.Deep.RegionLaw
import Derived.Deep.AppendLies
import Derived.Laws.CopyOwn
import Derived.Deep.OwnRows
namespace Go.Proofs.YtkjlflmcojmfgaaDoor
open Go.RowKit
theorem cell_lt {w : World} {p : Addr} {v : Value} (h : w.cell? p = some v) : p.block < w.heap.size := by
  unfold World.cell? at h
  rcases Nat.lt_or_ge p.block w.heap.size with hlt | hge
  · exact hlt
  · rw [Array.getElem?_eq_none hge] at h; cases h
theorem cell_keep {w w' : World} {p : Addr} {v : Value} (hb : Below w.heap.size w w') (h : w.cell? p = some v) : w'.cell? p = some v := (hb.cell (cell_lt h)).trans h
theorem below_trans {w w1 w2 : World} (h : Below w.heap.size w w1) (k : Below w1.heap.size w1 w2) : Below w.heap.size w w2 := h.trans (k.mono h.size)
/-- Every cell that is there stays what it is. -/
def Keeps (w w' : World) : Prop := ∀ p v, w.cell? p = some v → w'.cell? p = some v
theorem Keeps.refl (w : World) : Keeps w w := fun _ _ h => h
theorem Keeps.trans {a b c : World} (h : Keeps a b) (k : Keeps b c) : Keeps a c := fun p v x => k p v (h p v x)
theorem keeps_below {w w' : World} (hb : Below w.heap.size w w') : Keeps w w' := fun _ _ h => cell_keep hb h
theorem ret_int {k : IntKind} {a b : Int} (h : a = b) : Ending.returned (.int k a) = .returned (.int k b) := by rw [h]
theorem ret_bool {a b : Bool} (h : a = b) : Ending.returned (.bool a) = .returned (.bool b) := by rw [h]
theorem ne_beq {a b : Int} (h : ¬a = b) : (a == b) = false := by simpa using h
theorem below_drewN {B : Nat} {a w : World} (h : Below B a w) (n : Nat) : Below B a (w.drewN n) := ⟨h.os, h.tape, h.output, h.size, h.block⟩
theorem quiet_left {P : Program} {f : FuncId} {args : Array Value} {w : World} {n : Nat} {v : Value}
    (h : Calls P f args (w.drewN n) fun e w' => e = .returned v ∧ w.drewN n = w') : Calls P f args (w.drewN n) fun e w'' => e = .returned v ∧ ∃ m, w'' = w.drewN m :=
  h.mono fun _ _ ⟨he, hm⟩ => ⟨he, n, hm.symm⟩
theorem own_from {w : World} {base : Nat} {e : TypeId} {size n : Nat} {v : Value} {xs : List Value} (h : w.ownsRow base e size v n xs) : ∀ k, v.ownBlock = some k → base ≤ k := by
  intro k hk
  rcases h.2 with ⟨rfl, _⟩ | ⟨g, cap, cur, rfl, hg, _⟩
  · simp [Value.ownBlock] at hk
  · have : g = k := by simpa [Value.ownBlock] using hk
    omega
/-- The slice at a (as wide as l) reads as the records l, each as enc lays it into k cells. -/
def RowsAt {α : Type} (k : Nat) (enc : α → List Value) (w : World) (a : Option Addr) (l : List α) : Prop :=
  l = [] ∨ ∃ b off, a = some ⟨b, off, none⟩ ∧ ∀ i x, l[i]? = some x → ∀ j u, (enc x)[j]? = some u → w.cell? ⟨b, off + i * k + j, none⟩ = some u
def IsRows {α : Type} (k : Nat) (enc : α → List Value) (w : World) (v : Value) (l : List α) : Prop :=
  ∃ a c, v = .slice a l.length c ∧ RowsAt k enc w a l ∧ l.length ≤ 9223372036854775807 ∧ l.length ≤ c ∧ c ≤ 9223372036854775807
theorem RowsAt.keep {α : Type} {k : Nat} {enc : α → List Value} {w w' : World} {a : Option Addr} {l : List α} (h : RowsAt k enc w a l) (hk : Keeps w w') : RowsAt k enc w' a l := by
  rcases h with h | ⟨b, off, ha, hc⟩
  · exact .inl h
  · exact .inr ⟨b, off, ha, fun i x hi j u hj => hk _ _ (hc i x hi j u hj)⟩
theorem IsRows.keep {α : Type} {k : Nat} {enc : α → List Value} {w w' : World} {v : Value} {l : List α} (h : IsRows k enc w v l) (hk : Keeps w w') : IsRows k enc w' v l := by
  obtain ⟨a, c, e, h, m⟩ := h
  exact ⟨a, c, e, h.keep hk, m⟩
theorem RowsAt.at_ {α : Type} {k : Nat} {enc : α → List Value} {w : World} {a : Option Addr} {l : List α} (h : RowsAt k enc w a l) {i : Nat} {x : α} (hi : l[i]? = some x) :
    ∃ b off, a = some ⟨b, off, none⟩ ∧ ∀ i x, l[i]? = some x → ∀ j u, (enc x)[j]? = some u → w.cell? ⟨b, off + i * k + j, none⟩ = some u := by
  rcases h with h | h
  · subst h; simp at hi
  · exact h
theorem flat_get {α : Type} {k : Nat} {enc : α → List Value} : ∀ (l : List α), (∀ x ∈ l, (enc x).length = k) → ∀ i x, l[i]? = some x → ∀ j u, (enc x)[j]? = some u → (l.flatMap enc)[i * k + j]? = some u
  | [], _, i, x, hi, _, _, _ => by simp at hi
  | y :: r, hl, 0, x, hi, j, u, hj => by
    obtain rfl : y = x := by simpa using hi
    rw [List.flatMap_cons, Nat.zero_mul, Nat.zero_add, List.getElem?_append_left]
    · exact hj
    · exact (List.getElem?_eq_some_iff.1 hj).1
  | y :: r, hl, i + 1, x, hi, j, u, hj => by
    have hy : (enc y).length = k := hl y (by simp)
    rw [List.flatMap_cons, List.getElem?_append_right (by rw [hy, Nat.add_mul]; omega), hy]
    rw [show (i + 1) * k + j - k = i * k + j from by rw [Nat.add_mul]; omega]
    exact flat_get r (fun z hz => hl z (by simp [hz])) i x (by simpa using hi) j u hj
/-- What a call owns reads as a list. -/
theorem IsRows.of_owns {α : Type} {k : Nat} {enc : α → List Value} {w : World} {base : Nat} {e : TypeId} {v : Value} {l : List α} (h : w.ownsRow base e k v l.length (l.flatMap enc)) (hl : ∀ x ∈ l, (enc x).length = k) (hm : l.length ≤ 9223372036854775807) : IsRows k enc w v l := by
  rcases h.2 with ⟨rfl, h0⟩ | ⟨g, cap, cur, hv, _, _, hnc, hcm, _⟩
  · have : l = [] := List.eq_nil_of_length_eq_zero h0
    subst this
    exact ⟨none, 0, rfl, .inl rfl, hm, by simp, by simp⟩
  · refine ⟨some ⟨g, 0, none⟩, cap, hv, .inr ⟨g, 0, rfl, fun i x hi j u hj => ?_⟩, hm, hnc, by unfold maxLen at hcm; omega⟩
    have hc := h.cells (g := g) (by rw [hv]; rfl) (i * k + j) u (flat_get l hl i x hi j u hj)
    have hadd : (⟨g, 0, none⟩ : Addr).add (i * k + j) = ⟨g, 0 + i * k + j, none⟩ := by
      unfold Addr.add; split
      · rename_i h0; rw [Nat.add_assoc, h0]
      · simp
    rwa [hadd] at hc

theorem below_new (w : World) (o : Obj) : Below w.heap.size w (w.alloc o) := (Below.refl _ _).alloc (Nat.le_refl _) _
structure Nm where
  val : ByteArray
  ok : val.size ≤ maxLen
theorem Nm.ext {x y : Nm} (h : x.1 = y.1) : x = y := by
  cases x; cases y; simp at h; subst h; rfl
instance : DecidableEq Nm := fun x y => if h : x.1 = y.1 then isTrue (Nm.ext h) else isFalse fun e => h (congrArg Nm.val e)
def noName : Nm := ⟨⟨#[]⟩, by decide⟩
def encS (s : Nm) : List Value := [.string s.1]
def IsNames (w : World) (v : Value) (l : List Nm) : Prop := IsRows 1 encS w v l
theorem IsNames.keep {w w' : World} {v : Value} {l : List Nm} (h : IsNames w v l) (hk : Keeps w w') : IsNames w' v l := IsRows.keep h hk
def encI (n : Int) : List Value := [.int .i64 n]
def IsInts (w : World) (v : Value) (l : List Int) : Prop := IsRows 1 encI w v l
theorem RowsAt.one {α : Type} {enc : α → List Value} {w : World} {a : Option Addr} {l : List α} (h : RowsAt 1 enc w a l) {i : Nat} {x : α} {u : Value} (hi : l[i]? = some x) (he : enc x = [u]) :
    ∃ b off, a = some ⟨b, off, none⟩ ∧ w.cell? ⟨b, off + i, none⟩ = some u := by
  obtain ⟨b, off, ha, hc⟩ := h.at_ hi
  refine ⟨b, off, ha, ?_⟩
  have := hc i x hi 0 u (by rw [he]; rfl)
  simpa using this

theorem IsInts.keep {w w' : World} {v : Value} {l : List Int} (h : IsInts w v l) (hk : Keeps w w') : IsInts w' v l := IsRows.keep h hk
theorem IsRows.shape {α : Type} {k : Nat} {enc : α → List Value} {w : World} {v : Value} {l : List α} (h : IsRows k enc w v l) : ∃ a c, v = .slice a l.length c ∧ l.length ≤ 9223372036854775807 ∧ l.length ≤ c ∧ c ≤ 9223372036854775807 := by
  obtain ⟨a, c, e, _, hm⟩ := h
  exact ⟨a, c, e, hm⟩
theorem IsRows.rows {α : Type} {k : Nat} {enc : α → List Value} {w : World} {a : Option Addr} {n c : Nat} {l : List α} (h : IsRows k enc w (.slice a n c) l) : RowsAt k enc w a l := by
  obtain ⟨a', c', e, h1, hm⟩ := h
  injection e with e1 e2 e3
  subst e1
  exact h1
theorem IsRows.at_one {α : Type} {enc : α → List Value} {w : World} {a : Option Addr} {n c : Nat} {l : List α} (h : IsRows 1 enc w (.slice a n c) l) {i : Nat} {x : α} {u : Value} (hi : l[i]? = some x) (he : enc x = [u]) :
    ∃ b off, a = some ⟨b, off, none⟩ ∧ w.cell? ⟨b, off + i, none⟩ = some u := h.rows.one hi he
/-! ### names -/
theorem Nm.bytes_inj {x y : Nm} (h : x.1.data.toList = y.1.data.toList) : x = y := by
  apply Nm.ext
  have : x.1.data = y.1.data := by rw [← Array.toArray_toList (xs := x.1.data), h, Array.toArray_toList]
  cases hx : x.1 with
  | mk d => cases hy : y.1 with
    | mk d' => rw [hx, hy] at this; dsimp only at this; rw [this]
theorem IsNames.at_ {w : World} {a : Option Addr} {n c : Nat} {l : List Nm} (h : IsNames w (.slice a n c) l) {i : Nat} {x : Nm} (hi : l[i]? = some x) : ∃ b off, a = some ⟨b, off, none⟩ ∧ w.cell? ⟨b, off + i, none⟩ = some (.string x.1) := IsRows.at_one h hi rfl
theorem IsNames.nil (w : World) : IsNames w (.slice none 0 0) [] := ⟨none, 0, rfl, .inl rfl, by simp, by simp, by simp⟩
theorem IsInts.at_ {w : World} {a : Option Addr} {n c : Nat} {l : List Int} (h : IsInts w (.slice a n c) l) {i : Nat} {x : Int} (hi : l[i]? = some x) : ∃ b off, a = some ⟨b, off, none⟩ ∧ w.cell? ⟨b, off + i, none⟩ = some (.int .i64 x) := IsRows.at_one h hi rfl
theorem IsInts.nil (w : World) : IsInts w (.slice none 0 0) [] := ⟨none, 0, rfl, .inl rfl, by simp, by simp, by simp⟩
/-! ### bytes -/
def encB (c : UInt8) : List Value := [.int .u8 c.toNat]
def IsBytes (w : World) (v : Value) (l : List UInt8) : Prop := IsRows 1 encB w v l
theorem IsBytes.keep {w w' : World} {v : Value} {l : List UInt8} (h : IsBytes w v l) (hk : Keeps w w') : IsBytes w' v l := IsRows.keep h hk
theorem IsBytes.at_ {w : World} {a : Option Addr} {n c : Nat} {l : List UInt8} (h : IsBytes w (.slice a n c) l) {i : Nat} {x : UInt8} (hi : l[i]? = some x) : ∃ b off, a = some ⟨b, off, none⟩ ∧ w.cell? ⟨b, off + i, none⟩ = some (.int .u8 x.toNat) := IsRows.at_one h hi rfl
/-! ### pairs -/
def encC (c : Int × Int) : List Value := [.int .i64 c.1, .int .i64 c.2]
def IsCovers (w : World) (v : Value) (l : List (Int × Int)) : Prop := IsRows 2 encC w v l
theorem IsCovers.keep {w w' : World} {v : Value} {l : List (Int × Int)} (h : IsCovers w v l) (hk : Keeps w w') : IsCovers w' v l := IsRows.keep h hk
theorem IsCovers.at_ {w : World} {a : Option Addr} {n c : Nat} {l : List (Int × Int)} (h : IsCovers w (.slice a n c) l) {i : Nat} {x : Int × Int} (hi : l[i]? = some x) :
    ∃ b off, a = some ⟨b, off, none⟩ ∧ w.cell? ⟨b, off + i * 2, none⟩ = some (.int .i64 x.1) ∧ w.cell? ⟨b, off + i * 2 + 1, none⟩ = some (.int .i64 x.2) := by
  obtain ⟨b, off, ha, hc⟩ := h.rows.at_ hi
  exact ⟨b, off, ha, hc i x hi 0 _ rfl, hc i x hi 1 _ rfl⟩
theorem IsCovers.nil (w : World) : IsCovers w (.slice none 0 0) [] := ⟨none, 0, rfl, .inl rfl, by simp, by simp, by simp⟩
/-! ### lattices -/
structure Ltc where
  name : Nm
  elems : List Nm
  covers : List (Int × Int)
  at_ : Int
def IsLtc (w : World) (v : Value) (L : Ltc) : Prop := ∃ ev cv, v = .agg #[.string L.name.1, ev, cv, .int .i64 L.at_] ∧ IsNames w ev L.elems ∧ IsCovers w cv L.covers
theorem IsLtc.keep {w w' : World} {v : Value} {L : Ltc} (h : IsLtc w v L) (hk : Keeps w w') : IsLtc w' v L := by
  obtain ⟨ev, cv, e, h1, h2⟩ := h
  exact ⟨ev, cv, e, h1.keep hk, h2.keep hk⟩
theorem IsLtc.shape {w : World} {v : Value} {L : Ltc} (h : IsLtc w v L) : ∃ ea ec ca cc, v = .agg #[.string L.name.1, .slice ea L.elems.length ec, .slice ca L.covers.length cc, .int .i64 L.at_] ∧ IsNames w (.slice ea L.elems.length ec) L.elems ∧ IsCovers w (.slice ca L.covers.length cc) L.covers
    ∧ L.elems.length ≤ ec ∧ ec ≤ 9223372036854775807 ∧ L.covers.length ≤ cc ∧ cc ≤ 9223372036854775807 := by
  obtain ⟨ev, cv, e, h1, h2⟩ := h
  obtain ⟨ea, ec, e1, m1, m2⟩ := IsRows.shape h1
  obtain ⟨ca, cc, e2, n1, n2⟩ := IsRows.shape h2
  subst e1 e2
  exact ⟨ea, ec, ca, cc, e, h1, h2, m2.1, m2.2, n2⟩
/-! ### the key words -/
def mkNm (l : List UInt8) (h : l.length ≤ 16) : Nm := ⟨⟨l.toArray⟩, by simp [ByteArray.size, maxLen]; omega⟩
def keyBytes : List (List UInt8) := [[108, 97, 116, 116, 105, 99, 101], [102, 117, 110, 99, 116, 105, 111, 110], [111, 110], [98, 97, 115, 101], [118, 105, 101, 119], [107, 101, 121], [100, 101, 110, 121], [110, 111, 116], [105, 110, 116], [115, 121, 109]]
def keyNames : List Nm := [mkNm [108, 97, 116, 116, 105, 99, 101] (by decide), mkNm [102, 117, 110, 99, 116, 105, 111, 110] (by decide), mkNm [111, 110] (by decide), mkNm [98, 97, 115, 101] (by decide), mkNm [118, 105, 101, 119] (by decide), mkNm [107, 101, 121] (by decide), mkNm [100, 101, 110, 121] (by decide), mkNm [110, 111, 116] (by decide), mkNm [105, 110, 116] (by decide), mkNm [115, 121, 109] (by decide)]
theorem mem_keys {x : Nm} : x ∈ keyNames ↔ x.1.data.toList ∈ keyBytes := by
  have e : keyBytes = keyNames.map fun y => y.1.data.toList := by rfl
  rw [e, List.mem_map]
  constructor
  · intro h; exact ⟨x, h, rfl⟩
  · rintro ⟨y, hy, h⟩
    rw [← Nm.bytes_inj h]; exact hy
/-- The variable g holds the key words. -/
def KeysAt (w : World) (g : Nat) : Prop := ∃ a c, w.cell? ⟨g, 0, none⟩ = some (.slice a 10 c) ∧ IsNames w (.slice a 10 c) keyNames
theorem KeysAt.keep {w w' : World} {g : Nat} (h : KeysAt w g) (hk : Keeps w w') : KeysAt w' g := by
  obtain ⟨a, c, h1, h2⟩ := h
  exact ⟨a, c, hk _ _ h1, h2.keep hk⟩
/-! ### boxes -/
theorem block_lt {w : World} {g : Nat} {o : Obj} (h : w.heap[g]? = some o) : g < w.heap.size := (Array.getElem?_eq_some_iff.1 h).1
theorem block_keep {w w' : World} {g : Nat} {o : Obj} (h : w.heap[g]? = some o) (hb : Below w.heap.size w w') : w'.heap[g]? = some o := (hb.block g (block_lt h)).trans h
theorem free_at {w : World} {g j : Nat} {cs : Array Value} {t : TypeId} (h : w.heap[g]? = some (.cells cs t (0, 0))) : w.frozen? ⟨g, j, none⟩ = false := by
  simp [World.frozen?, h]
theorem cell_at {w : World} {g j : Nat} {cs : Array Value} {t : TypeId} {v : Value} (h : w.heap[g]? = some (.cells cs t (0, 0))) (hv : cs[j]? = some v) : w.cell? ⟨g, j, none⟩ = some v := by
  rw [cell_of_row _ g j cs t (0, 0) h]; exact hv
/-- A box of a lattice. -/
structure Box4 (w : World) (g : Nat) (a b c d : Value) : Prop where
  c0 : w.cell? ⟨g, 0, none⟩ = some a
  c1 : w.cell? ⟨g, 1, none⟩ = some b
  c2 : w.cell? ⟨g, 2, none⟩ = some c
  c3 : w.cell? ⟨g, 3, none⟩ = some d
theorem Box4.of {w : World} {g : Nat} {a b c d : Value} {t : TypeId} (h : w.heap[g]? = some (.cells #[a, b, c, d] t (0, 0))) : Box4 w g a b c d :=
  ⟨cell_at h rfl, cell_at h rfl, cell_at h rfl, cell_at h rfl⟩
theorem below_alloc' {a w : World} {o : Obj} (hB : Below a.heap.size a w) : Below a.heap.size a (w.alloc o) := hB.alloc hB.size o
theorem below_drew' {B : Nat} {a w : World} (h : Below B a w) : Below B a w.drew := h.drew
theorem below_undrew {B : Nat} {a w : World} (h : Below B a.drew w) : Below B a w := ⟨h.os, h.tape, h.output, h.size, h.block⟩
theorem below_step {a w w' : World} (h : Below w.heap.size w w') (k : Below a.heap.size a w) : Below a.heap.size a w' := below_trans k h
end Go.Proofs.YtkjlflmcojmfgaaDoor
