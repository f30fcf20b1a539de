/- Words for memory: slices that read as lists of bytes, of pages, of writes; disks; pages that a call owns. -/
import Derived.Test.YtcembocnkndlhaaProg
import Derived.Test.YtcembocnkndlhaaMath
import Derived.WalkKit
import Derived.WalkSpells
import Derived.WalkLawsBesides
import Derived.Lib.Hide
import Derived.Deep.QuietTactic
import Derived.BigQuiet
import Derived.Maps.AppendAt
import Derived.Deep.RegionLaw
import Derived.Deep.AppendLies
import Derived.Laws.CopyOwn
import Derived.Deep.OwnRows
namespace Go.Proofs.Ytcembocnkndlhaa
open Go.RowKit
theorem cell_lt {w : World} {p : Addr} {v : Value} (h : w.cell? p = some v) : p.block < w.heap.size := by
  unfold World.cell? at h
  rcases Nat.lt_or_ge p.block w.heap.size with hlt | hge
  · exact hlt
  · rw [Array.getElem?_eq_none hge] at h; cases h
theorem cell_keep {w w' : World} {p : Addr} {v : Value} (hb : Below w.heap.size w w') (h : w.cell? p = some v) : w'.cell? p = some v := (hb.cell (cell_lt h)).trans h
theorem below_trans {w w1 w2 : World} (h : Below w.heap.size w w1) (k : Below w1.heap.size w1 w2) : Below w.heap.size w w2 := h.trans (k.mono h.size)
/-- Every cell that is there stays what it is. -/
def Keeps (w w' : World) : Prop := ∀ p v, w.cell? p = some v → w'.cell? p = some v
theorem Keeps.refl (w : World) : Keeps w w := fun _ _ h => h
theorem Keeps.trans {a b c : World} (h : Keeps a b) (k : Keeps b c) : Keeps a c := fun p v x => k p v (h p v x)
theorem keeps_below {w w' : World} (hb : Below w.heap.size w w') : Keeps w w' := fun _ _ h => cell_keep hb h
theorem ret_int {k : IntKind} {a b : Int} (h : a = b) : Ending.returned (.int k a) = .returned (.int k b) := by rw [h]
theorem ret_bool {a b : Bool} (h : a = b) : Ending.returned (.bool a) = .returned (.bool b) := by rw [h]
theorem ne_beq {a b : Int} (h : ¬a = b) : (a == b) = false := by simpa using h
theorem below_drewN {B : Nat} {a w : World} (h : Below B a w) (n : Nat) : Below B a (w.drewN n) := ⟨h.os, h.tape, h.output, h.size, h.block⟩
theorem quiet_left {P : Program} {f : FuncId} {args : Array Value} {w : World} {n : Nat} {v : Value}
    (h : Calls P f args (w.drewN n) fun e w' => e = .returned v ∧ w.drewN n = w') : Calls P f args (w.drewN n) fun e w'' => e = .returned v ∧ ∃ m, w'' = w.drewN m :=
  h.mono fun _ _ ⟨he, hm⟩ => ⟨he, n, hm.symm⟩
theorem own_from {w : World} {base : Nat} {e : TypeId} {size n : Nat} {v : Value} {xs : List Value} (h : w.ownsRow base e size v n xs) : ∀ k, v.ownBlock = some k → base ≤ k := by
  intro k hk
  rcases h.2 with ⟨rfl, _⟩ | ⟨g, cap, cur, rfl, hg, _⟩
  · simp [Value.ownBlock] at hk
  · have : g = k := by simpa [Value.ownBlock] using hk
    omega
/-- The slice at a (as wide as l) reads as the records l, each as enc lays it into k cells. -/
def RowsAt {α : Type} (k : Nat) (enc : α → List Value) (w : World) (a : Option Addr) (l : List α) : Prop :=
  l = [] ∨ ∃ b off, a = some ⟨b, off, none⟩ ∧ ∀ i x, l[i]? = some x → ∀ j u, (enc x)[j]? = some u → w.cell? ⟨b, off + i * k + j, none⟩ = some u
def IsRows {α : Type} (k : Nat) (enc : α → List Value) (w : World) (v : Value) (l : List α) : Prop :=
  ∃ a c, v = .slice a l.length c ∧ RowsAt k enc w a l ∧ l.length ≤ 9223372036854775807 ∧ l.length ≤ c ∧ c ≤ 9223372036854775807
theorem RowsAt.keep {α : Type} {k : Nat} {enc : α → List Value} {w w' : World} {a : Option Addr} {l : List α} (h : RowsAt k enc w a l) (hk : Keeps w w') : RowsAt k enc w' a l := by
  rcases h with h | ⟨b, off, ha, hc⟩
  · exact .inl h
  · exact .inr ⟨b, off, ha, fun i x hi j u hj => hk _ _ (hc i x hi j u hj)⟩
theorem IsRows.keep {α : Type} {k : Nat} {enc : α → List Value} {w w' : World} {v : Value} {l : List α} (h : IsRows k enc w v l) (hk : Keeps w w') : IsRows k enc w' v l := by
  obtain ⟨a, c, e, h, m⟩ := h
  exact ⟨a, c, e, h.keep hk, m⟩
theorem RowsAt.at_ {α : Type} {k : Nat} {enc : α → List Value} {w : World} {a : Option Addr} {l : List α} (h : RowsAt k enc w a l) {i : Nat} {x : α} (hi : l[i]? = some x) :
    ∃ b off, a = some ⟨b, off, none⟩ ∧ ∀ i x, l[i]? = some x → ∀ j u, (enc x)[j]? = some u → w.cell? ⟨b, off + i * k + j, none⟩ = some u := by
  rcases h with h | h
  · subst h; simp at hi
  · exact h
theorem flat_get {α : Type} {k : Nat} {enc : α → List Value} : ∀ (l : List α), (∀ x ∈ l, (enc x).length = k) → ∀ i x, l[i]? = some x → ∀ j u, (enc x)[j]? = some u → (l.flatMap enc)[i * k + j]? = some u
  | [], _, i, x, hi, _, _, _ => by simp at hi
  | y :: r, hl, 0, x, hi, j, u, hj => by
    obtain rfl : y = x := by simpa using hi
    rw [List.flatMap_cons, Nat.zero_mul, Nat.zero_add, List.getElem?_append_left]
    · exact hj
    · exact (List.getElem?_eq_some_iff.1 hj).1
  | y :: r, hl, i + 1, x, hi, j, u, hj => by
    have hy : (enc y).length = k := hl y (by simp)
    rw [List.flatMap_cons, List.getElem?_append_right (by rw [hy, Nat.add_mul]; omega), hy]
    rw [show (i + 1) * k + j - k = i * k + j from by rw [Nat.add_mul]; omega]
    exact flat_get r (fun z hz => hl z (by simp [hz])) i x (by simpa using hi) j u hj
/-- What a call owns reads as a list. -/
theorem IsRows.of_owns {α : Type} {k : Nat} {enc : α → List Value} {w : World} {base : Nat} {e : TypeId} {v : Value} {l : List α} (h : w.ownsRow base e k v l.length (l.flatMap enc)) (hl : ∀ x ∈ l, (enc x).length = k) (hm : l.length ≤ 9223372036854775807) : IsRows k enc w v l := by
  rcases h.2 with ⟨rfl, h0⟩ | ⟨g, cap, cur, hv, _, _, hnc, hcm, _⟩
  · have : l = [] := List.eq_nil_of_length_eq_zero h0
    subst this
    exact ⟨none, 0, rfl, .inl rfl, hm, by simp, by simp⟩
  · refine ⟨some ⟨g, 0, none⟩, cap, hv, .inr ⟨g, 0, rfl, fun i x hi j u hj => ?_⟩, hm, hnc, by unfold maxLen at hcm; omega⟩
    have hc := h.cells (g := g) (by rw [hv]; rfl) (i * k + j) u (flat_get l hl i x hi j u hj)
    have hadd : (⟨g, 0, none⟩ : Addr).add (i * k + j) = ⟨g, 0 + i * k + j, none⟩ := by
      unfold Addr.add; split
      · rename_i h0; rw [Nat.add_assoc, h0]
      · simp
    rwa [hadd] at hc

theorem below_new (w : World) (o : Obj) : Below w.heap.size w (w.alloc o) := (Below.refl _ _).alloc (Nat.le_refl _) _
/-! ### bytes -/
def encB (c : UInt8) : List Value := [.int .u8 c.toNat]
def IsBytes (w : World) (v : Value) (l : List UInt8) : Prop := IsRows 1 encB w v l
theorem IsBytes.keep {w w' : World} {v : Value} {l : List UInt8} (h : IsBytes w v l) (hb : Below w.heap.size w w') : IsBytes w' v l := IsRows.keep h (keeps_below hb)
theorem RowsAt.one {α : Type} {enc : α → List Value} {w : World} {a : Option Addr} {l : List α} (h : RowsAt 1 enc w a l) {i : Nat} {x : α} {u : Value} (hi : l[i]? = some x) (he : enc x = [u]) :
    ∃ b off, a = some ⟨b, off, none⟩ ∧ w.cell? ⟨b, off + i, none⟩ = some u := by
  obtain ⟨b, off, ha, hc⟩ := h.at_ hi
  refine ⟨b, off, ha, ?_⟩
  have := hc i x hi 0 u (by rw [he]; rfl)
  simpa using this
theorem IsBytes.nil (w : World) : IsBytes w (.slice none 0 0) [] := ⟨none, 0, rfl, .inl rfl, by simp, by simp, by simp⟩
/-! ### pages -/
def encV (u : Value) : List Value := [u]
def IsPages (w : World) (v : Value) (L : List (List UInt8)) : Prop :=
  ∃ vs : List Value, IsRows 1 encV w v vs ∧ vs.length = L.length ∧ ∀ (i : Nat) (u : Value) (l : List UInt8), vs[i]? = some u → L[i]? = some l → IsBytes w u l
theorem IsPages.keep {w w' : World} {v : Value} {L : List (List UInt8)} (h : IsPages w v L) (hb : Below w.heap.size w w') : IsPages w' v L := by
  obtain ⟨vs, h1, h2, h3⟩ := h
  exact ⟨vs, h1.keep (keeps_below hb), h2, fun i u l hu hl => (h3 i u l hu hl).keep hb⟩
theorem IsPages.shape {w : World} {v : Value} {L : List (List UInt8)} (h : IsPages w v L) : ∃ a c, v = .slice a L.length c ∧ L.length ≤ 9223372036854775807 ∧ L.length ≤ c ∧ c ≤ 9223372036854775807 := by
  obtain ⟨vs, ⟨a, c, e, _, hm⟩, h2, _⟩ := h
  exact ⟨a, c, by rw [e, h2], by omega⟩
/-- The page i: its slice's cell, and what it reads as. -/
theorem IsPages.at_ {w : World} {a : Option Addr} {n c : Nat} {L : List (List UInt8)} (h : IsPages w (.slice a n c) L) {i : Nat} {l : List UInt8} (hi : L[i]? = some l) :
    ∃ b off pa pc, a = some ⟨b, off, none⟩ ∧ w.cell? ⟨b, off + i, none⟩ = some (.slice pa l.length pc) ∧ IsBytes w (.slice pa l.length pc) l := by
  obtain ⟨vs, ⟨a', c', e, h1, hm⟩, h2, h3⟩ := h
  injection e with e1 e2 e3
  subst e1
  have hlt : i < vs.length := by rw [h2]; exact (List.getElem?_eq_some_iff.1 hi).1
  have hu : vs[i]? = some vs[i] := List.getElem?_eq_getElem hlt
  obtain ⟨b, off, ha, hc⟩ := h1.one hu rfl
  have h4 := h3 i _ _ hu hi
  have h5 := h4
  obtain ⟨pa, pc, e', _, _⟩ := h5
  rw [e'] at hc h4
  exact ⟨b, off, pa, pc, ha, hc, h4⟩
/-! ### writes -/
def encW (p : Int × Value) : List Value := [.int .i64 p.1, p.2]
def IsWrites (w : World) (v : Value) (L : List Wt) : Prop :=
  ∃ ps : List (Int × Value), IsRows 2 encW w v ps ∧ ps.length = L.length ∧ ∀ (i : Nat) (p : Int × Value) (x : Wt), ps[i]? = some p → L[i]? = some x → p.1 = x.at_ ∧ IsBytes w p.2 x.data
theorem IsWrites.keep {w w' : World} {v : Value} {L : List Wt} (h : IsWrites w v L) (hb : Below w.heap.size w w') : IsWrites w' v L := by
  obtain ⟨vs, h1, h2, h3⟩ := h
  exact ⟨vs, h1.keep (keeps_below hb), h2, fun i u l hu hl => ⟨(h3 i u l hu hl).1, (h3 i u l hu hl).2.keep hb⟩⟩
theorem IsWrites.shape {w : World} {v : Value} {L : List Wt} (h : IsWrites w v L) : ∃ a c, v = .slice a L.length c ∧ L.length ≤ 9223372036854775807 ∧ L.length ≤ c ∧ c ≤ 9223372036854775807 := by
  obtain ⟨vs, ⟨a, c, e, _, hm⟩, h2, _⟩ := h
  exact ⟨a, c, by rw [e, h2], by omega⟩
theorem IsWrites.at_ {w : World} {a : Option Addr} {n c : Nat} {L : List Wt} (h : IsWrites w (.slice a n c) L) {i : Nat} {x : Wt} (hi : L[i]? = some x) :
    ∃ b off pa pc, a = some ⟨b, off, none⟩ ∧ w.cell? ⟨b, off + i * 2, none⟩ = some (.int .i64 x.at_) ∧ w.cell? ⟨b, off + i * 2 + 1, none⟩ = some (.slice pa x.data.length pc) ∧ IsBytes w (.slice pa x.data.length pc) x.data := by
  obtain ⟨vs, ⟨a', c', e, h1, hm⟩, h2, h3⟩ := h
  injection e with e1 e2 e3
  subst e1
  have hlt : i < vs.length := by rw [h2]; exact (List.getElem?_eq_some_iff.1 hi).1
  have hu : vs[i]? = some vs[i] := List.getElem?_eq_getElem hlt
  obtain ⟨b, off, ha, hc⟩ := h1.at_ hu
  obtain ⟨h4, h5⟩ := h3 i _ _ hu hi
  have h6 := h5
  obtain ⟨pa, pc, e', _, _⟩ := h6
  have c0 := hc i _ hu 0 _ rfl
  have c1 := hc i _ hu 1 _ rfl
  rw [e'] at c1 h5
  rw [h4] at c0
  exact ⟨b, off, pa, pc, ha, c0, c1, h5⟩
theorem IsWrites.nil (w : World) : IsWrites w (.slice none 0 0) [] := ⟨[], ⟨none, 0, rfl, .inl rfl, by simp, by simp, by simp⟩, rfl, by simp⟩
theorem IsPages.nil (w : World) : IsPages w (.slice none 0 0) [] := ⟨[], ⟨none, 0, rfl, .inl rfl, by simp, by simp, by simp⟩, rfl, by simp⟩
/-! ### disks -/
def IsDisk (w : World) (v : Value) (d : Dk) : Prop := ∃ pv wv, v = .agg #[pv, wv, .bool d.down] ∧ IsPages w pv d.pages ∧ IsWrites w wv d.writes
theorem IsDisk.keep {w w' : World} {v : Value} {d : Dk} (h : IsDisk w v d) (hb : Below w.heap.size w w') : IsDisk w' v d := by
  obtain ⟨pv, wv, e, h1, h2⟩ := h
  exact ⟨pv, wv, e, h1.keep hb, h2.keep hb⟩
def zeroV : Value := .agg #[.slice none 0 0, .slice none 0 0, .bool false]
theorem IsDisk.zero (w : World) : IsDisk w zeroV noDisk := ⟨_, _, rfl, IsPages.nil w, IsWrites.nil w⟩
theorem IsDisk.shape {w : World} {v : Value} {d : Dk} (h : IsDisk w v d) : ∃ pa pc wa wc, v = .agg #[.slice pa d.pages.length pc, .slice wa d.writes.length wc, .bool d.down] ∧ IsPages w (.slice pa d.pages.length pc) d.pages ∧ IsWrites w (.slice wa d.writes.length wc) d.writes
    ∧ d.pages.length ≤ 9223372036854775807 ∧ d.writes.length ≤ 9223372036854775807 ∧ d.pages.length ≤ pc ∧ pc ≤ 9223372036854775807 ∧ d.writes.length ≤ wc ∧ wc ≤ 9223372036854775807 := by
  obtain ⟨pv, wv, e, h1, h2⟩ := h
  obtain ⟨pa, pc, e1, m1, m3⟩ := h1.shape
  obtain ⟨wa, wc, e2, m2, m4⟩ := h2.shape
  subst e1 e2
  exact ⟨pa, pc, wa, wc, e, h1, h2, m1, m2, m3.1, m3.2, m4⟩
/-! ### a page that a call owns -/
def bytesV (l : List UInt8) : List Value := l.map fun c => .int .u8 c.toNat
theorem flat_bytes (l : List UInt8) : l.flatMap encB = bytesV l := by
  induction l with
  | nil => rfl
  | cons x r ih => rw [List.flatMap_cons, ih]; rfl
theorem length_bytesV (l : List UInt8) : (bytesV l).length = l.length := by simp [bytesV]
theorem bytesV_one (l : List UInt8) : ∀ u ∈ bytesV l, u.oneCell' = true := by
  intro u hu
  obtain ⟨x, _, rfl⟩ := List.mem_map.1 hu
  rfl
def OwnPage (w : World) (base : Nat) (v : Value) (l : List UInt8) : Prop :=
  ∃ g, v = .slice (some ⟨g, 0, none⟩) 64 64 ∧ base ≤ g ∧ w.heap[g]? = some (.cells (bytesV l).toArray 5 (0, 0)) ∧ l.length = 64
theorem OwnPage.bytes {w : World} {base : Nat} {v : Value} {l : List UInt8} (h : OwnPage w base v l) : IsBytes w v l := by
  obtain ⟨g, rfl, _, hg, hl⟩ := h
  refine ⟨some ⟨g, 0, none⟩, 64, by rw [hl], .inr ⟨g, 0, rfl, fun i x hi j u hj => ?_⟩, by omega, by omega, by omega⟩
  have hj0 : j = 0 := by
    have := (List.getElem?_eq_some_iff.1 hj).1
    simp [encB] at this; exact this
  subst hj0
  rw [cell_of_row _ g _ _ 5 (0, 0) hg]
  have : u = .int .u8 x.toNat := by simpa [encB] using hj.symm
  subst this
  simp [bytesV, hi]
theorem OwnPage.keep {w w' : World} {base : Nat} {v : Value} {l : List UInt8} (h : OwnPage w base v l) (hb : Below w.heap.size w w') : OwnPage w' base v l := by
  obtain ⟨g, e, h1, hg, hl⟩ := h
  exact ⟨g, e, h1, (hb.block g (Array.getElem?_eq_some_iff.1 hg).1).trans hg, hl⟩
/-- A cell of a block that the call made, in a later world. -/
theorem boxed {w w' : World} {cs : Array Value} {t : TypeId} {j : Nat} {v : Value} (hv : cs[j]? = some v) (hb : Below (w.alloc (.cells cs t)).heap.size (w.alloc (.cells cs t)) w') : w'.cell? ⟨w.heap.size, j, none⟩ = some v := by
  have e : (w.alloc (.cells cs t)).heap[w.heap.size]? = some (.cells cs t) := heap_alloc_new w _
  refine cell_keep hb ?_
  rw [cell_of_row _ w.heap.size j _ t (0, 0) e]
  exact hv
/-- The block that a call made, in a later world. -/
theorem box_at {w w' : World} {cs : Array Value} {t : TypeId} (hb : Below (w.alloc (.cells cs t)).heap.size (w.alloc (.cells cs t)) w') : w'.heap[w.heap.size]? = some (.cells cs t (0, 0)) :=
  (hb.block _ (by simp)).trans (heap_alloc_new w _)
theorem free_at {w : World} {g j : Nat} {cs : Array Value} {t : TypeId} (h : w.heap[g]? = some (.cells cs t (0, 0))) : w.frozen? ⟨g, j, none⟩ = false := by
  simp [World.frozen?, h]
theorem cell_at {w : World} {g j : Nat} {cs : Array Value} {t : TypeId} {v : Value} (h : w.heap[g]? = some (.cells cs t (0, 0))) (hv : cs[j]? = some v) : w.cell? ⟨g, j, none⟩ = some v := by
  rw [cell_of_row _ g j cs t (0, 0) h]; exact hv
theorem block_lt {w : World} {g : Nat} {o : Obj} (h : w.heap[g]? = some o) : g < w.heap.size := (Array.getElem?_eq_some_iff.1 h).1
theorem block_keep {w w' : World} {g : Nat} {o : Obj} (h : w.heap[g]? = some o) (hb : Below w.heap.size w w') : w'.heap[g]? = some o := (hb.block g (block_lt h)).trans h
/-- A box of three cells. -/
structure Box3 (w : World) (g : Nat) (a b c : Value) : Prop where
  c0 : w.cell? ⟨g, 0, none⟩ = some a
  c1 : w.cell? ⟨g, 1, none⟩ = some b
  c2 : w.cell? ⟨g, 2, none⟩ = some c
  f0 : w.frozen? ⟨g, 0, none⟩ = false
  f1 : w.frozen? ⟨g, 1, none⟩ = false
  f2 : w.frozen? ⟨g, 2, none⟩ = false
theorem Box3.of {w : World} {g : Nat} {a b c : Value} {t : TypeId} (h : w.heap[g]? = some (.cells #[a, b, c] t (0, 0))) : Box3 w g a b c :=
  ⟨cell_at h rfl, cell_at h rfl, cell_at h rfl, free_at h, free_at h, free_at h⟩
end Go.Proofs.Ytcembocnkndlhaa
