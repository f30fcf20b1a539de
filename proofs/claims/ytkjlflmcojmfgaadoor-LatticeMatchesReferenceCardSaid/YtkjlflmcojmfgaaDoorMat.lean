/- Rows of Booleans, tables of Booleans, and the plain facts of the reference. -/
import Derived.Test.YtkjlflmcojmfgaaDoorPair
import Derived.Test.YtkjlflmcojmfgaaDoorWl
import Derived.Laws.MakeOwn
namespace Go.Proofs.YtkjlflmcojmfgaaDoor
open Go.RowKit
theorem IsLtc.sides {w : World} {s ev cv a : Value} {L : Ltc} (h : IsLtc w (.agg #[s, ev, cv, a]) L) : IsNames w ev L.elems ∧ IsCovers w cv L.covers := by
  obtain ⟨ev', cv', e, h1, h2⟩ := h
  simp at e
  obtain ⟨-, rfl, rfl, -⟩ := e
  exact ⟨h1, h2⟩
def boolsV (n : Nat) (f : Nat → Bool) : List Value := (List.range n).map fun b => .bool (f b)
def BRow (w : World) (g n : Nat) (f : Nat → Bool) : Prop := w.heap[g]? = some (.cells (boolsV n f).toArray 4 (0, 0))
theorem boolsV_get {n : Nat} {f : Nat → Bool} {b : Nat} (h : b < n) : (boolsV n f)[b]? = some (.bool (f b)) := by
  unfold boolsV; rw [List.getElem?_map, List.getElem?_range h]; rfl
theorem BRow.cell {w : World} {g n : Nat} {f : Nat → Bool} (h : BRow w g n f) {b : Nat} (hb : b < n) : w.cell? ⟨g, b, none⟩ = some (.bool (f b)) := cell_at h (by simpa using boolsV_get hb)
theorem BRow.free {w : World} {g n : Nat} {f : Nat → Bool} (h : BRow w g n f) {b : Nat} : w.frozen? ⟨g, b, none⟩ = false := free_at h
theorem BRow.lt {w : World} {g n : Nat} {f : Nat → Bool} (h : BRow w g n f) : g < w.heap.size := block_lt h
theorem BRow.keep {w w' : World} {g n : Nat} {f : Nat → Bool} (h : BRow w g n f) (hb : Below w.heap.size w w') : BRow w' g n f := block_keep h hb
theorem BRow.of_block {w w' : World} {g n : Nat} {f : Nat → Bool} (h : BRow w g n f) (hb : w'.heap[g]? = w.heap[g]?) : BRow w' g n f := hb.trans h
theorem boolsV_congr {n : Nat} {f p : Nat → Bool} (e : ∀ b, b < n → f b = p b) : boolsV n f = boolsV n p := by
  unfold boolsV
  exact List.map_congr_left fun b hb => by rw [e b (List.mem_range.1 hb)]
theorem BRow.congr {w : World} {g n : Nat} {f p : Nat → Bool} (h : BRow w g n f) (e : ∀ b, b < n → f b = p b) : BRow w g n p := by unfold BRow at *; rw [← boolsV_congr e]; exact h
theorem boolsV_set {n : Nat} {f : Nat → Bool} (b : Nat) (x : Bool) : (boolsV n f).set b (.bool x) = boolsV n (fun i => if i = b then x else f i) := by
  refine List.ext_getElem? fun i => ?_
  rw [List.getElem?_set]
  by_cases hi : i < n
  · rw [boolsV_get hi]
    by_cases e : b = i
    · subst e; simp [boolsV, hi]
    · rw [if_neg e, boolsV_get hi, if_neg (fun h => e h.symm)]
  · have h1 : (boolsV n f).length = n := by simp [boolsV]
    have h2 : (boolsV n (fun i => if i = b then x else f i)).length = n := by simp [boolsV]
    rw [List.getElem?_eq_none (l := boolsV n f) (by omega), List.getElem?_eq_none (l := boolsV n (fun i => if i = b then x else f i)) (by omega)]
    split
    · rw [if_neg (by omega)]
    · rfl
theorem BRow.set {w : World} {g n : Nat} {f : Nat → Bool} (h : BRow w g n f) (b : Nat) (x : Bool) : BRow (w.setCell ⟨g, b, none⟩ (.bool x)) g n (fun i => if i = b then x else f i) := by
  have := heap_setCell_same w g b _ 4 (.bool x) h
  unfold BRow
  rw [this, ← boolsV_set]; simp
theorem BRow.other {w : World} {g n : Nat} {f : Nat → Bool} (h : BRow w g n f) {p : Addr} (hp : p.block ≠ g) (x : Value) : BRow (w.setCell p x) g n f := h.of_block (heap_setCell_other w p g x fun e => hp e.symm)
theorem info4 : (Tryd.prog.info? 4).map (fun i => (i.zero, i.size, i.bytes)) = some (some (.bool false), 1, 1) := by kernel_rfl
theorem run_mkB (n : Nat) (hn : n ≤ 1000000) (w : World) : (Instr.makeSlice 53 (.int .i64 (n : Int)) (.int .i64 (n : Int))).run Tryd.prog w = .ok (.slice (some ⟨w.heap.size, 0, none⟩) n n) (w.alloc (.cells (boolsV n fun _ => false).toArray 4)) := by
  obtain ⟨i0, hi, hz0, hz1, hz2⟩ := info_parts' info4
  have h := run_make (P := Tryd.prog) w 53 4 i0 (.bool false) Tryd.underlying53 hi hz0 .i64 .i64 (n : Int) (n : Int) (by omega) (Int.le_refl _) (by rw [hz2]; omega) (by omega)
  have e : madeCells (Value.bool false).cells ((n : Int).toNat * i0.size) = (boolsV n fun _ => false).toArray := by
    rw [hz1, Int.toNat_natCast, Nat.mul_one]
    apply Array.ext
    · simp [madeCells, boolsV]
    · intro i h1 h2
      simp [madeCells, boolsV, Nat.mod_one, Value.cells]
  rw [e, Int.toNat_natCast] at h
  exact h
theorem BRow.new (w : World) (n : Nat) (f : Nat → Bool) : BRow (w.alloc (.cells (boolsV n f).toArray 4)) w.heap.size n f := heap_alloc_new w _
/-- The rows of a table. -/
def MRows (w : World) (rs : Nat → Nat) (n : Nat) (o : Rl2) : Prop := ∀ a, a < n → BRow w (rs a) n (o a)
def MTop (w : World) (G c : Nat) (rs : Nat → Nat) (n : Nat) : Prop := (∀ a, a < n → w.cell? ⟨G, a, none⟩ = some (.slice (some ⟨rs a, 0, none⟩) n n)) ∧ 1 ≤ n ∧ n ≤ c ∧ c ≤ 9223372036854775807
/-- A table of Booleans. -/
def IsMat (w : World) (G c n : Nat) (o : Rl2) : Prop := ∃ rs, MTop w G c rs n ∧ MRows w rs n o
theorem MTop.keep {w w' : World} {G c : Nat} {rs : Nat → Nat} {n : Nat} (h : MTop w G c rs n) (hk : Keeps w w') : MTop w' G c rs n := ⟨fun a ha => hk _ _ (h.1 a ha), h.2⟩
theorem MRows.keep {w w' : World} {rs : Nat → Nat} {n : Nat} {o : Rl2} (h : MRows w rs n o) (hb : Below w.heap.size w w') : MRows w' rs n o := fun a ha => (h a ha).keep hb
theorem IsMat.keep {w w' : World} {G c n : Nat} {o : Rl2} (h : IsMat w G c n o) (hb : Below w.heap.size w w') : IsMat w' G c n o := by
  obtain ⟨rs, h1, h2⟩ := h
  exact ⟨rs, h1.keep (keeps_below hb), h2.keep hb⟩
theorem IsMat.at_ {w : World} {G c n : Nat} {o : Rl2} (h : IsMat w G c n o) {a : Nat} (ha : a < n) : ∃ r, w.cell? ⟨G, a, none⟩ = some (.slice (some ⟨r, 0, none⟩) n n) ∧ BRow w r n (o a) := by
  obtain ⟨rs, h1, h2⟩ := h
  exact ⟨rs a, h1.1 a ha, h2 a ha⟩
theorem MRows.set {w : World} {rs : Nat → Nat} {n : Nat} {o : Rl2} (h : MRows w rs n o) (hi : ∀ a b, a < n → b < n → rs a = rs b → a = b) {a b : Nat} (ha : a < n) (x : Bool) : MRows (w.setCell ⟨rs a, b, none⟩ (.bool x)) rs n (fun i j => if i = a ∧ j = b then x else o i j) := by
  intro i hn
  by_cases e : i = a
  · subst e
    exact ((h i hn).set b x).congr fun j _ => by by_cases hj : j = b <;> simp [hj]
  · exact ((h i hn).other (p := ⟨rs a, b, none⟩) (fun e' => e (hi i a hn ha e'.symm)) _).congr fun j _ => by simp [e]
theorem MRows.congr {w : World} {rs : Nat → Nat} {n : Nat} {o p : Rl2} (h : MRows w rs n o) (e : ∀ a b, a < n → b < n → o a b = p a b) : MRows w rs n p := fun a ha => (h a ha).congr fun b hb => e a b ha hb
/-! ### what the reference computes -/
def upB (o : Rl2) (mk : Nat → Bool) (k : Nat) (c : Nat) : Bool := (List.range k).all fun b => !mk b || o b c
def boundOf (n : Nat) (o : Rl2) (mk : Nat → Bool) : Int := leastOf n o fun c => upB o mk n c
theorem upB_succ (o : Rl2) (mk : Nat → Bool) (k c : Nat) : upB o mk (k + 1) c = (upB o mk k c && (!mk k || o k c)) := by
  unfold upB; rw [List.range_succ, List.all_append]; simp
theorem bound_lub {n : Nat} {o : Rl2} {l : List Nat} {mk : Nat → Bool} (hl : ∀ a ∈ l, a < n) (hm : ∀ b, b < n → mk b = decide (b ∈ l)) : boundOf n o mk = lub n o l := by
  unfold boundOf lub
  refine leastOf_congr fun c _ => ?_
  unfold upB
  rw [Bool.eq_iff_iff, List.all_eq_true, List.all_eq_true]
  constructor
  · intro h a ha
    have := h a (List.mem_range.2 (hl a ha))
    rw [hm a (hl a ha), decide_eq_true ha] at this
    simpa using this
  · intro h b hb
    by_cases hx : b ∈ l
    · rw [h b hx]; simp
    · rw [hm b (List.mem_range.1 hb), decide_eq_false hx]; rfl
def namesL (L : Ltc) : Int := if argsOk L = false then 1 else if dupN L.elems = true then 5 else 0
/-- A pass in the middle of a row. -/
def part2 (k a b : Nat) (o : Rl2) : Rl2 := fun i j => if i < a ∨ (i = a ∧ j < b) then pass k o i j else o i j
theorem pass_col {k a : Nat} {o : Rl2} : pass k o a k = o a k := by unfold pass; cases o a k <;> simp
theorem pass_row {k b : Nat} {o : Rl2} : pass k o k b = o k b := by unfold pass; cases o k b <;> simp
theorem part2_at {k a b : Nat} {o : Rl2} : part2 k a b o a b = o a b := by unfold part2; rw [if_neg (by omega)]
theorem part2_col {k a b i : Nat} {o : Rl2} : part2 k a b o i k = o i k := by
  unfold part2; split
  · exact pass_col
  · rfl
theorem part2_row {k a b j : Nat} {o : Rl2} : part2 k a b o k j = o k j := by
  unfold part2; split
  · exact pass_row
  · rfl
theorem part2_set {k a b : Nat} {o : Rl2} (i j : Nat) : (if i = a ∧ j = b then pass k o a b else part2 k a b o i j) = part2 k a (b + 1) o i j := by
  unfold part2
  by_cases h : i = a ∧ j = b
  · obtain ⟨rfl, rfl⟩ := h
    rw [if_pos ⟨rfl, rfl⟩, if_pos (by omega)]
  · rw [if_neg h]
    by_cases h2 : i < a ∨ (i = a ∧ j < b)
    · rw [if_pos h2, if_pos (by omega)]
    · rw [if_neg h2, if_neg (by omega)]
theorem part2_zero (k : Nat) (o : Rl2) : part2 k 0 0 o = o := by funext i j; unfold part2; rw [if_neg (by omega)]
theorem part2_row_end {n k a : Nat} {o : Rl2} (i j : Nat) (hj : j < n) : part2 k a n o i j = part2 k (a + 1) 0 o i j := by
  unfold part2
  by_cases h : i < a ∨ (i = a ∧ j < n)
  · rw [if_pos h, if_pos (by omega)]
  · rw [if_neg h, if_neg (by omega)]
theorem part2_end {n k : Nat} {o : Rl2} (i j : Nat) (hi : i < n) : part2 k n 0 o i j = pass k o i j := by
  unfold part2; rw [if_pos (by omega)]
end Go.Proofs.YtkjlflmcojmfgaaDoor
