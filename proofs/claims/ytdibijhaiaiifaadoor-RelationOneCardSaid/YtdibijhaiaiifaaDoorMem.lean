/- Words for memory: a slice of spans that reads as a list; what a call keeps. -/
import Derived.Test.YtdibijhaiaiifaaDoorProg
import Derived.Test.YtdibijhaiaiifaaDoorWords
import Derived.WalkKit
import Derived.WalkSpells
import Derived.WalkLawsBesides
import Derived.Lib.Hide
namespace Go.Proofs.YtdibijhaiaiifaaDoor
open Go.RowKit
theorem cell_lt {w : World} {p : Addr} {v : Value} (h : w.cell? p = some v) : p.block < w.heap.size := by
  unfold World.cell? at h
  rcases Nat.lt_or_ge p.block w.heap.size with hlt | hge
  · exact hlt
  · rw [Array.getElem?_eq_none hge] at h; cases h
theorem cell_keep {w w' : World} {p : Addr} {v : Value} (hb : Below w.heap.size w w') (h : w.cell? p = some v) : w'.cell? p = some v := (hb.cell (cell_lt h)).trans h
theorem below_trans {w w1 w2 : World} (h : Below w.heap.size w w1) (k : Below w1.heap.size w1 w2) : Below w.heap.size w w2 := h.trans (k.mono h.size)
/-- The key words, as the text of package value lays them. -/
def keyWords : List (List UInt8) := ["lattice", "function", "on", "base", "view", "key", "deny", "not", "int", "sym"].map fun s => s.toUTF8.data.toList
abbrev strV (l : List UInt8) : Value := .string ⟨l.toArray⟩
/-- The tables: the library's and the key words. -/
def Tab (w : World) : Prop := (∀ j, j < 64 → w.cell? ⟨1, j, none⟩ = some (.int .u8 (Lib.deBruijn64tab.getD j 0))) ∧ ∀ j, j < 10 → w.cell? ⟨0, j, none⟩ = some (strV (keyWords.getD j []))
theorem Tab.keep {w w' : World} (h : Tab w) (hb : Below w.heap.size w w') : Tab w' := ⟨fun j hj => cell_keep hb (h.1 j hj), fun j hj => cell_keep hb (h.2 j hj)⟩
def SpansAt (w : World) (a : Option Addr) (l : List Sp) : Prop :=
  l = [] ∨ ∃ b off, a = some ⟨b, off, none⟩ ∧ ∀ i, i < l.length → w.cell? ⟨b, off + i * 2, none⟩ = some (.int .i64 (l.getD i (0, 0)).1) ∧ w.cell? ⟨b, off + i * 2 + 1, none⟩ = some (.int .i64 (l.getD i (0, 0)).2)
theorem SpansAt.keep {w w' : World} {a : Option Addr} {l : List Sp} (h : SpansAt w a l) (hb : Below w.heap.size w w') : SpansAt w' a l := by
  rcases h with h | ⟨b, off, ha, hc⟩
  · exact .inl h
  · exact .inr ⟨b, off, ha, fun i hi => ⟨cell_keep hb (hc i hi).1, cell_keep hb (hc i hi).2⟩⟩
theorem SpansAt.at_ {w : World} {a : Option Addr} {l : List Sp} (h : SpansAt w a l) {i : Nat} (hi : i < l.length) :
    ∃ b off, a = some ⟨b, off, none⟩ ∧ ∀ i, i < l.length → w.cell? ⟨b, off + i * 2, none⟩ = some (.int .i64 (l.getD i (0, 0)).1) ∧ w.cell? ⟨b, off + i * 2 + 1, none⟩ = some (.int .i64 (l.getD i (0, 0)).2) := by
  rcases h with h | h
  · subst h; simp at hi
  · exact h
/-- The value v is a slice that reads as the list l. -/
def IsSpans (w : World) (v : Value) (l : List Sp) : Prop := ∃ a c, v = .slice a l.length c ∧ SpansAt w a l ∧ l.length ≤ 9223372036854775807 ∧ l.length ≤ c ∧ c ≤ 9223372036854775807
theorem IsSpans.keep {w w' : World} {v : Value} {l : List Sp} (h : IsSpans w v l) (hb : Below w.heap.size w w') : IsSpans w' v l := by
  obtain ⟨a, c, e, h, k⟩ := h
  exact ⟨a, c, e, h.keep hb, k⟩
/-- The value is no slice of an elder block. -/
def Fresh (base : Nat) (v : Value) : Prop := ∀ b, v.ownBlock = some b → base ≤ b
theorem Fresh.mono {a b : Nat} {v : Value} (h : Fresh b v) (hab : a ≤ b) : Fresh a v := fun k hk => Nat.le_trans hab (h k hk)
def IsSpansF (w : World) (base : Nat) (v : Value) (l : List Sp) : Prop := IsSpans w v l ∧ Fresh base v
theorem ret_int {k : IntKind} {a b : Int} (h : a = b) : Ending.returned (.int k a) = .returned (.int k b) := by rw [h]
end Go.Proofs.YtdibijhaiaiifaaDoor
