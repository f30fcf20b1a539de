/- A slice of bytes that reads as a list. -/
import Derived.Test.YtcbopckgnbameaaDoorMem
namespace Go.Proofs.YtcbopckgnbameaaDoor
open Go.RowKit
def BytesAt (w : World) (a : Option Addr) (l : List Nat) : Prop :=
  l = [] ∨ ∃ b off, a = some ⟨b, off, none⟩ ∧ ∀ i, i < l.length → w.cell? ⟨b, off + i, none⟩ = some (.int .u8 (l.getD i 0 : Nat))
theorem BytesAt.keep {w w' : World} {a : Option Addr} {l : List Nat} (h : BytesAt w a l) (hb : Below w.heap.size w w') : BytesAt w' a l := by
  rcases h with h | ⟨b, off, ha, hc⟩
  · exact .inl h
  · exact .inr ⟨b, off, ha, fun i hi => cell_keep hb (hc i hi)⟩
theorem BytesAt.at_ {w : World} {a : Option Addr} {l : List Nat} (h : BytesAt w a l) {i : Nat} (hi : i < l.length) :
    ∃ b off, a = some ⟨b, off, none⟩ ∧ ∀ i, i < l.length → w.cell? ⟨b, off + i, none⟩ = some (.int .u8 (l.getD i 0 : Nat)) := by
  rcases h with h | h
  · subst h; simp at hi
  · exact h
/-- The value v is a slice that reads as the bytes l. -/
def IsBytes (w : World) (v : Value) (l : List Nat) : Prop := ∃ a c, v = .slice a l.length c ∧ BytesAt w a l ∧ l.length ≤ 9223372036854775807 ∧ ∀ i, l.getD i 0 < 256
theorem IsBytes.keep {w w' : World} {v : Value} {l : List Nat} (h : IsBytes w v l) (hb : Below w.heap.size w w') : IsBytes w' v l := by
  obtain ⟨a, c, e, h, k⟩ := h
  exact ⟨a, c, e, h.keep hb, k⟩
end Go.Proofs.YtcbopckgnbameaaDoor
