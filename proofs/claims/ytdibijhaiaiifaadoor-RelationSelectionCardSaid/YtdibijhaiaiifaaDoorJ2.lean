/- Parts Kit, Late, Vals, Xa, Xb, Xc, Rws, Xd, Sa, Sb, Sc, Sd, Se: words, walks and laws that the claims of this seat share. -/
import Derived.Test.YtdibijhaiaiifaaDoorJ1
import Derived.Deep.RegionLaw
import Derived.Deep.AppendLies
import Derived.Laws.CopyOwn
import Derived.Deep.OwnRows
import Derived.Deep.Upon
import Derived.OrdersHeld
import Derived.Deep.RegionHeld3
import Derived.Deep.RegionWith
import Derived.Shelf.SlSortCmp.KitK
import Derived.Deep.Cut
import Derived.Deep.CutRange
import Derived.Deep.LoopGhost
import Derived.Lib.ConvBytes
import Derived.Lib.LazyBuf
import Derived.Sort.LotA
import Derived.BigRegion
/- Rows in memory, append of rows, regions that draw their order: general laws. -/
namespace Go.Proofs.YtdibijhaiaiifaaDoor
open Go.RowKit
/-- Every cell that is there stays what it is. -/
def Keeps (w w' : World) : Prop := ∀ p v, w.cell? p = some v → w'.cell? p = some v
theorem Keeps.refl (w : World) : Keeps w w := fun _ _ h => h
theorem Keeps.trans {a b c : World} (h : Keeps a b) (k : Keeps b c) : Keeps a c := fun p v x => k p v (h p v x)
theorem keeps_below {w w' : World} (hb : Below w.heap.size w w') : Keeps w w' := fun _ _ h => cell_keep hb h
theorem ret_bool {a b : Bool} (h : a = b) : Ending.returned (.bool a) = .returned (.bool b) := by rw [h]
theorem ne_beq {a b : Int} (h : ¬a = b) : (a == b) = false := by simpa using h
/-- The slice at a (as wide as l) reads as the records l, each as enc lays it into k cells. -/
def RowsAt {α : Type} (k : Nat) (enc : α → List Value) (w : World) (a : Option Addr) (l : List α) : Prop :=
  l = [] ∨ ∃ b off, a = some ⟨b, off, none⟩ ∧ ∀ i x, l[i]? = some x → ∀ j u, (enc x)[j]? = some u → w.cell? ⟨b, off + i * k + j, none⟩ = some u
def IsRows {α : Type} (k : Nat) (enc : α → List Value) (w : World) (v : Value) (l : List α) : Prop :=
  ∃ a c, v = .slice a l.length c ∧ RowsAt k enc w a l ∧ l.length ≤ 9223372036854775807 ∧ l.length ≤ c ∧ c ≤ 9223372036854775807
theorem RowsAt.keep {α : Type} {k : Nat} {enc : α → List Value} {w w' : World} {a : Option Addr} {l : List α} (h : RowsAt k enc w a l) (hk : Keeps w w') : RowsAt k enc w' a l := by
  rcases h with h | ⟨b, off, ha, hc⟩
  · exact .inl h
  · exact .inr ⟨b, off, ha, fun i x hi j u hj => hk _ _ (hc i x hi j u hj)⟩
theorem IsRows.keep {α : Type} {k : Nat} {enc : α → List Value} {w w' : World} {v : Value} {l : List α} (h : IsRows k enc w v l) (hk : Keeps w w') : IsRows k enc w' v l := by
  obtain ⟨a, c, e, h, m⟩ := h
  exact ⟨a, c, e, h.keep hk, m⟩
theorem RowsAt.at_ {α : Type} {k : Nat} {enc : α → List Value} {w : World} {a : Option Addr} {l : List α} (h : RowsAt k enc w a l) {i : Nat} {x : α} (hi : l[i]? = some x) :
    ∃ b off, a = some ⟨b, off, none⟩ ∧ ∀ i x, l[i]? = some x → ∀ j u, (enc x)[j]? = some u → w.cell? ⟨b, off + i * k + j, none⟩ = some u := by
  rcases h with h | h
  · subst h; simp at hi
  · exact h
theorem flats_get {α : Type} {k : Nat} {enc : α → List Value} : ∀ (l : List α), (∀ x ∈ l, (enc x).length = k) → ∀ i x, l[i]? = some x → ∀ j u, (enc x)[j]? = some u → (l.flatMap enc)[i * k + j]? = some u
  | [], _, i, x, hi, _, _, _ => by simp at hi
  | y :: r, hl, 0, x, hi, j, u, hj => by
    obtain rfl : y = x := by simpa using hi
    rw [List.flatMap_cons, Nat.zero_mul, Nat.zero_add, List.getElem?_append_left]
    · exact hj
    · exact (List.getElem?_eq_some_iff.1 hj).1
  | y :: r, hl, i + 1, x, hi, j, u, hj => by
    have hy : (enc y).length = k := hl y (by simp)
    rw [List.flatMap_cons, List.getElem?_append_right (by rw [hy, Nat.add_mul]; omega), hy]
    rw [show (i + 1) * k + j - k = i * k + j from by rw [Nat.add_mul]; omega]
    exact flats_get r (fun z hz => hl z (by simp [hz])) i x (by simpa using hi) j u hj
/-- What a call owns reads as a list. -/
theorem IsRows.of_owns {α : Type} {k : Nat} {enc : α → List Value} {w : World} {base : Nat} {e : TypeId} {v : Value} {l : List α} (h : w.ownsRow base e k v l.length (l.flatMap enc)) (hl : ∀ x ∈ l, (enc x).length = k) (hm : l.length ≤ 9223372036854775807) : IsRows k enc w v l := by
  rcases h.2 with ⟨rfl, h0⟩ | ⟨g, cap, cur, hv, _, _, hnc, hcm, _⟩
  · have : l = [] := List.eq_nil_of_length_eq_zero h0
    subst this
    exact ⟨none, 0, rfl, .inl rfl, hm, by simp, by simp⟩
  · refine ⟨some ⟨g, 0, none⟩, cap, hv, .inr ⟨g, 0, rfl, fun i x hi j u hj => ?_⟩, hm, hnc, by unfold maxLen at hcm; omega⟩
    have hc := h.cells (g := g) (by rw [hv]; rfl) (i * k + j) u (flats_get l hl i x hi j u hj)
    have hadd : (⟨g, 0, none⟩ : Addr).add (i * k + j) = ⟨g, 0 + i * k + j, none⟩ := by
      unfold Addr.add; split
      · rename_i h0; rw [Nat.add_assoc, h0]
      · simp
    rwa [hadd] at hc

theorem below_new (w : World) (o : Obj) : Below w.heap.size w (w.alloc o) := (Below.refl _ _).alloc (Nat.le_refl _) _
theorem RowsAt.one {α : Type} {enc : α → List Value} {w : World} {a : Option Addr} {l : List α} (h : RowsAt 1 enc w a l) {i : Nat} {x : α} {u : Value} (hi : l[i]? = some x) (he : enc x = [u]) :
    ∃ b off, a = some ⟨b, off, none⟩ ∧ w.cell? ⟨b, off + i, none⟩ = some u := by
  obtain ⟨b, off, ha, hc⟩ := h.at_ hi
  refine ⟨b, off, ha, ?_⟩
  have := hc i x hi 0 u (by rw [he]; rfl)
  simpa using this
theorem free_at {w : World} {g j : Nat} {cs : Array Value} {t : TypeId} (h : w.heap[g]? = some (.cells cs t (0, 0))) : w.frozen? ⟨g, j, none⟩ = false := by
  simp [World.frozen?, h]
theorem cell_at {w : World} {g j : Nat} {cs : Array Value} {t : TypeId} {v : Value} (h : w.heap[g]? = some (.cells cs t (0, 0))) (hv : cs[j]? = some v) : w.cell? ⟨g, j, none⟩ = some v := by
  rw [cell_of_row _ g j cs t (0, 0) h]; exact hv
theorem block_lt {w : World} {g : Nat} {o : Obj} (h : w.heap[g]? = some o) : g < w.heap.size := (Array.getElem?_eq_some_iff.1 h).1
theorem block_keep {w w' : World} {g : Nat} {o : Obj} (h : w.heap[g]? = some o) (hb : Below w.heap.size w w') : w'.heap[g]? = some o := (hb.block g (block_lt h)).trans h
theorem flat_at {α : Type} {k : Nat} {enc : α → List Value} : ∀ (l : List α), (∀ x ∈ l, (enc x).length = k) → ∀ (J : Nat) (u : Value), (l.flatMap enc)[J]? = some u → ∃ i x j, l[i]? = some x ∧ (enc x)[j]? = some u ∧ J = i * k + j
  | [], _, J, u, h => by simp at h
  | y :: r, hl, J, u, h => by
    have hy : (enc y).length = k := hl y (by simp)
    rw [List.flatMap_cons] at h
    by_cases hJ : J < k
    · rw [List.getElem?_append_left (by omega)] at h
      exact ⟨0, y, J, rfl, h, by simp⟩
    · rw [List.getElem?_append_right (by omega), hy] at h
      obtain ⟨i, x, j, hi, hj, e⟩ := flat_at r (fun z hz => hl z (by simp [hz])) _ u h
      exact ⟨i + 1, x, j, by simpa using hi, hj, by rw [Nat.add_mul]; omega⟩
theorem flat_len {α : Type} {k : Nat} {enc : α → List Value} : ∀ (l : List α), (∀ x ∈ l, (enc x).length = k) → (l.flatMap enc).length = l.length * k
  | [], _ => by simp
  | y :: r, hl => by
    rw [List.flatMap_cons, List.length_append, hl y (by simp), flat_len r (fun z hz => hl z (by simp [hz])), List.length_cons, Nat.add_mul]; omega
theorem run_append_rows {α : Type} {w : World} (enc : α → List Value) (t ty : TypeId) (base : Nat) (e : TypeId) (i : TypeInfo) (z : Value) (size bytes : Nat) (ht : Tryd.prog.underlying t = some (.slice e)) (hi : Tryd.prog.info? e = some i) (hz : i.zero = some z)
    (hsize : i.size = size) (hby : i.bytes = bytes) (hzs : z.cells.size = size) (hsz : 0 < size)
    (v : Value) (n : Nat) (xs : List Value) (hown : w.ownsRow base e size v n xs) (x : Value) (l : List α) (hx : IsRows size enc w x l) (hl : ∀ y ∈ l, (enc y).length = size) (h1 : ∀ y ∈ l, ∀ u ∈ enc y, u.oneCell' = true)
    (h63 : n + l.length ≤ maxLen) (hbytes : (n + l.length) * bytes ≤ 140737488355328) (hbase : base ≤ w.heap.size) :
    ∃ v' w', (Builtin.append_ #[t, t] ty #[v, x]).run Tryd.prog w = .ok v' w' ∧ w'.ownsRow base e size v' (n + l.length) (xs ++ l.flatMap enc) ∧ w.grownBy w' v.ownBlock ∧ (v'.ownBlock = v.ownBlock ∨ v'.ownBlock = some w.heap.size) := by
  obtain ⟨a, c, rfl, hr, hm⟩ := hx
  cases a with
  | none =>
    have hnil : l = [] := by
      rcases hr with h | ⟨b, off, ha, _⟩
      · exact h
      · cases ha
    subst hnil
    have hgr : w.grownBy w v.ownBlock := ⟨rfl, rfl, rfl, Nat.le_refl _, fun _ _ _ => rfl⟩
    have hs : Src Tryd.prog i.size t (.slice none 0 c) 0 [] w := ⟨.inl ⟨e, ht⟩, fun _ => by rfl, by rfl, by rfl, by simp, by simp⟩
    rcases hown.2 with ⟨rfl, h0⟩ | ⟨g, cap, cur, rfl, hb, hg, hnc, hcm, hcs, htake⟩
    · exact ⟨_, _, run_append_nothing w t t ty e i ht hi none 0 0 (Nat.le_refl _) _ hs, by simpa using hown, hgr, .inl rfl⟩
    · exact ⟨_, _, run_append_nothing w t t ty e i ht hi _ n cap hnc _ hs, by simpa using hown, hgr, .inl rfl⟩
  | some ad =>
    have hnews : ∀ J u, (l.flatMap enc)[J]? = some u → w.cell? (ad.add J) = some u := by
      intro J u hJ
      obtain ⟨i, y, j, hi, hj, rfl⟩ := flat_at l hl J u hJ
      obtain ⟨b, off, ha, hc⟩ := hr.at_ hi
      obtain rfl : ad = ⟨b, off, none⟩ := by simpa using ha
      have := hc i y hi j u hj
      have hadd : (⟨b, off, none⟩ : Addr).add (i * size + j) = ⟨b, off + i * size + j, none⟩ := by
        unfold Addr.add; split
        · rename_i h0; rw [Nat.add_assoc, h0]; simp
        · rw [Nat.add_assoc]
      rw [hadd]; exact this
    have h1' : ∀ u ∈ l.flatMap enc, u.oneCell' = true := fun u hu => by
      obtain ⟨y, hy, hu⟩ := List.mem_flatMap.1 hu
      exact h1 y hy u hu
    obtain ⟨v', w', hrun, h2, h3, -, h5⟩ := run_append_own_at (P := Tryd.prog) w base t ty e i z size bytes ht hi hz hsize hby hzs hsz v n xs hown ad l.length c (l.flatMap enc) (flat_len l hl) hnews h1' h63 hbytes hbase
    exact ⟨v', w', hrun, h2, h3, h5⟩
theorem wp_append_rows {α : Type} {w : World} {o : Oper} {a : Act} {K : Act → World → Prop} {Q : Exit → Act → World → Prop} (enc : α → List Value) (s y : Operand) (t : TypeId)
    (ho : o.op = .call { callee := .builtin .append, args := #[s, y], argTypes := #[t, t] }) (base : Nat) (e : TypeId) (i : TypeInfo) (z : Value) (size bytes : Nat) (ht : Tryd.prog.underlying t = some (.slice e)) (hi : Tryd.prog.info? e = some i) (hz : i.zero = some z)
    (hsize : i.size = size) (hby : i.bytes = bytes) (hzs : z.cells.size = size) (hsz : 0 < size)
    (v : Value) (n : Nat) (xs : List Value) (hs : a.eval s = v) (hown : w.ownsRow base e size v n xs) (x : Value) (l : List α) (hx' : a.eval y = x) (hx : IsRows size enc w x l) (hl : ∀ y ∈ l, (enc y).length = size) (h1 : ∀ y ∈ l, ∀ u ∈ enc y, u.oneCell' = true)
    (h63 : n + l.length ≤ maxLen) (hbytes : (n + l.length) * bytes ≤ 140737488355328) (hbase : base ≤ w.heap.size)
    (h : ∀ v' w', w'.ownsRow base e size v' (n + l.length) (xs ++ l.flatMap enc) → w.grownBy w' v.ownBlock → (v'.ownBlock = v.ownBlock ∨ v'.ownBlock = some w.heap.size) → K (a.put o.dst v') w') : o.wp Tryd.prog a w K Q := by
  obtain ⟨v', w', hr, h2, h3, h4⟩ := run_append_rows enc t o.type base e i z size bytes ht hi hz hsize hby hzs hsz v n xs hown x l hx hl h1 h63 hbytes hbase
  unfold Oper.wp execOp
  simp only [ho, resolve, invoke, builtin, Sem.run_bind, Sem.run_pure, Result.andThen_ok, List.map_toArray, List.map_cons, List.map_nil, hs, hx', hr]
  exact h v' w' h2 h3 h4
theorem wpList_append_rows {α : Type} {w : World} {ops : Array Oper} {rest : List Oper} {o : Oper} {a : Act} {Q : Exit → Act → World → Prop} (hgd : o.guard = none) (enc : α → List Value) (s y : Operand) (t : TypeId)
    (ho : o.op = .call { callee := .builtin .append, args := #[s, y], argTypes := #[t, t] }) (base : Nat) (e : TypeId) (i : TypeInfo) (z : Value) (size bytes : Nat) (ht : Tryd.prog.underlying t = some (.slice e)) (hi : Tryd.prog.info? e = some i) (hz : i.zero = some z)
    (hsize : i.size = size) (hby : i.bytes = bytes) (hzs : z.cells.size = size) (hsz : 0 < size)
    (v : Value) (n : Nat) (xs : List Value) (hs : a.eval s = v) (hown : w.ownsRow base e size v n xs) (x : Value) (l : List α) (hx' : a.eval y = x) (hx : IsRows size enc w x l) (hl : ∀ y ∈ l, (enc y).length = size) (h1 : ∀ y ∈ l, ∀ u ∈ enc y, u.oneCell' = true)
    (h63 : n + l.length ≤ maxLen) (hbytes : (n + l.length) * bytes ≤ 140737488355328) (hbase : base ≤ w.heap.size)
    (h : ∀ v' w', w'.ownsRow base e size v' (n + l.length) (xs ++ l.flatMap enc) → w.grownBy w' v.ownBlock → (v'.ownBlock = v.ownBlock ∨ v'.ownBlock = some w.heap.size) → wpList Tryd.prog ops Q rest (a.put o.dst v') w') : wpList Tryd.prog ops Q (o :: rest) a w :=
  wpList_plain hgd fun _ hK => wp_append_rows enc s y t ho base e i z size bytes ht hi hz hsize hby hzs hsz v n xs hs hown x l hx' hx hl h1 h63 hbytes hbase fun v' w' h2 h3 h4 => hK _ _ (h v' w' h2 h3 h4)
/-- In a region that draws its order, guarded or not. -/
theorem step_append_rows {α : Type} {w : World} {ops : Array Oper} {o : Oper} {a : Act} {K : Act → World → Prop} {Q : Exit → Act → World → Prop} {E : Prop} (hw : Region.wanted o (yielded ops a.tmps) = true) (enc : α → List Value) (s y : Operand) (t : TypeId)
    (ho : o.op = .call { callee := .builtin .append, args := #[s, y], argTypes := #[t, t] }) (base : Nat) (e : TypeId) (i : TypeInfo) (z : Value) (size bytes : Nat) (ht : Tryd.prog.underlying t = some (.slice e)) (hi : Tryd.prog.info? e = some i) (hz : i.zero = some z)
    (hsize : i.size = size) (hby : i.bytes = bytes) (hzs : z.cells.size = size) (hsz : 0 < size)
    (v : Value) (n : Nat) (xs : List Value) (hs : a.eval s = v) (hown : w.ownsRow base e size v n xs) (x : Value) (l : List α) (hx' : a.eval y = x) (hx : IsRows size enc w x l) (hl : ∀ y ∈ l, (enc y).length = size) (h1 : ∀ y ∈ l, ∀ u ∈ enc y, u.oneCell' = true)
    (h63 : n + l.length ≤ maxLen) (hbytes : (n + l.length) * bytes ≤ 140737488355328) (hbase : base ≤ w.heap.size)
    (h : ∀ v' w', w'.ownsRow base e size v' (n + l.length) (xs ++ l.flatMap enc) → w.grownBy w' v.ownBlock → (v'.ownBlock = v.ownBlock ∨ v'.ownBlock = some w.heap.size) → K (a.put o.dst v') w') : if Region.wanted o (yielded ops a.tmps) = true then Oper.wp Tryd.prog o a w K Q else E := by
  rw [if_pos hw]
  exact wp_append_rows enc s y t ho base e i z size bytes ht hi hz hsize hby hzs hsz v n xs hs hown x l hx' hx hl h1 h63 hbytes hbase h
theorem own_keep {w w' : World} {base : Nat} {e : TypeId} {size n : Nat} {v : Value} {xs : List Value} (h : w.ownsRow base e size v n xs) (hb : Below w.heap.size w w') : w'.ownsRow base e size v n xs :=
  h.kept (row := none) ⟨hb.os, hb.tape, hb.output, hb.size, fun i hi _ => hb.block i hi⟩ (by cases hv : v.ownBlock <;> simp)
theorem own_succ {W : World} {base : Nat} {e : TypeId} {size : Nat} {v : Value} {k : Nat} {xs : List Value} (h : W.ownsRow base e size v (k + 1) xs) : ∃ g cap, v = .slice (some ⟨g, 0, none⟩) (k + 1) cap ∧ base ≤ g := by
  rcases h.2 with ⟨_, h0⟩ | ⟨g, cap, _, rfl, hg, _⟩
  · omega
  · exact ⟨g, cap, rfl, hg⟩
/-- Where a slice's own row lies behind an append. -/
def Moved (w : World) (v v' : Value) : Prop := v'.ownBlock = v.ownBlock ∨ v'.ownBlock = some w.heap.size
theorem below_alloc' {a w : World} {o : Obj} (hB : Below a.heap.size a w) : Below a.heap.size a (w.alloc o) := hB.alloc hB.size o
theorem below_drew' {B : Nat} {a w : World} (h : Below B a w) : Below B a w.drew := h.drew
theorem below_undrew {B : Nat} {a w : World} (h : Below B a.drew w) : Below B a w := ⟨h.os, h.tape, h.output, h.size, h.block⟩
theorem below_step {a w w' : World} (h : Below w.heap.size w w') (k : Below a.heap.size a w) : Below a.heap.size a w' := below_trans k h
theorem info_parts' {e : TypeId} {z : Value} {s b : Nat} (h : (Tryd.prog.info? e).map (fun i => (i.zero, i.size, i.bytes)) = some (some z, s, b)) : ∃ i, Tryd.prog.info? e = some i ∧ i.zero = some z ∧ i.size = s ∧ i.bytes = b := by
  obtain ⟨i, hi, he⟩ := Option.map_eq_some_iff.1 h
  simp at he
  exact ⟨i, hi, he.1, he.2.1, he.2.2⟩
theorem own_slice {w : World} {base : Nat} {e : TypeId} {size n : Nat} {v : Value} {xs : List Value} (h : w.ownsRow base e size v n xs) : ∃ a c, v = .slice a n c := by
  rcases h.2 with ⟨rfl, h0⟩ | ⟨g, cap, cur, rfl, _⟩
  · exact ⟨none, 0, by rw [h0]⟩
  · exact ⟨_, _, rfl⟩
theorem own_set {w : World} {base : Nat} {e : TypeId} {size n : Nat} {v : Value} {xs : List Value} (h : w.ownsRow base e size v n xs) {p : Addr} (hp : p.block < base) (x : Value) : (w.setCell p x).ownsRow base e size v n xs :=
  h.kept (row := some p.block) ⟨rfl, rfl, rfl, by simp [World.setCell], fun k _ hk => heap_setCell_other w p k x fun e => hk (by rw [e])⟩ (by
    cases hb : v.ownBlock with
    | none => exact .inl rfl
    | some g => exact .inr fun e => by have := (h.lt g hb).1; injection e with e; omega)
theorem below_own {wr w w' : World} {base : Nat} {e : TypeId} {size n : Nat} {v : Value} {xs : List Value} (hO : wr.ownsRow base e size v n xs) (hb : Below wr.heap.size wr w) (hg : w.grownBy w' v.ownBlock) (hbase : base ≤ wr.heap.size) : Below base wr w' :=
  (hb.mono hbase).trans ⟨hg.os, hg.tape, hg.output, hg.size, fun k hk => hg.block k (by have := hb.size; omega) fun e => by have := (hO.lt k e.symm).1; omega⟩
theorem IsRows.take {α : Type} {k : Nat} {enc : α → List Value} {w : World} {a : Option Addr} {n c : Nat} {l : List α} (h : IsRows k enc w (.slice a n c) l) {m : Nat} (hm : m ≤ l.length) : IsRows k enc w (.slice a m c) (l.take m) := by
  obtain ⟨a', c', e, h1, h2, h3, h4⟩ := h
  injection e with e1 e2 e3
  subst e1 e3
  have hl : (l.take m).length = m := by rw [List.length_take]; omega
  refine ⟨a, c, by rw [hl], ?_, by omega, by omega, h4⟩
  rcases h1 with rfl | ⟨b, off, ha, hc⟩
  · exact .inl (by simp)
  · refine .inr ⟨b, off, ha, fun i x hi => hc i x ?_⟩
    have him : i < m := by have := (List.getElem?_eq_some_iff.1 hi).1; omega
    rwa [List.getElem?_take_of_lt him] at hi
theorem IsRows.drop {α : Type} {k : Nat} {enc : α → List Value} {w : World} {b off n c : Nat} {l : List α} (h : IsRows k enc w (.slice (some ⟨b, off, none⟩) n c) l) {m : Nat} (hm : m ≤ l.length) : IsRows k enc w (.slice (some ⟨b, off + m * k, none⟩) (l.length - m) (c - m)) (l.drop m) := by
  obtain ⟨a', c', e, h1, h2, h3, h4⟩ := h
  injection e with e1 e2 e3
  subst e1 e3
  have hl : (l.drop m).length = l.length - m := by rw [List.length_drop]
  refine ⟨_, _, by rw [hl], ?_, by omega, by omega, by omega⟩
  rcases h1 with rfl | ⟨b', off', ha, hc⟩
  · exact .inl (by simp)
  · injection ha with ha
    injection ha with e1 e2
    subst e1 e2
    refine .inr ⟨b, _, rfl, fun i x hi j u hj => ?_⟩
    rw [List.getElem?_drop] at hi
    have := hc _ x hi j u hj
    rwa [show off + (m + i) * k + j = off + m * k + i * k + j from by rw [Nat.add_mul]; omega] at this
theorem IsRows.of_block {α : Type} {k : Nat} {enc : α → List Value} {w w' : World} {g off n c : Nat} {l : List α} (h : IsRows k enc w (.slice (some ⟨g, off, none⟩) n c) l) (hg : w'.heap[g]? = w.heap[g]?) : IsRows k enc w' (.slice (some ⟨g, off, none⟩) n c) l := by
  obtain ⟨a', c', e, h1, h2⟩ := h
  refine ⟨a', c', e, ?_, h2⟩
  injection e with e1 e2 e3
  rcases h1 with h1 | ⟨b, off', ha, hc⟩
  · exact .inl h1
  · rw [← e1] at ha
    injection ha with ha
    injection ha with e4 e5
    subst e4 e5
    exact .inr ⟨g, off, e1.symm, fun i x hi j u hj => (World.cell?_of_block (a := ⟨g, _, none⟩) hg).trans (hc i x hi j u hj)⟩
/-- What a step writes into the frame, laid out. -/
theorem puts : (∀ (t : Array Value) (ds : List Deferred) (i : Nat) (v : Value), ({ tmps := t, defers := ds } : Act).put (some i) v = { tmps := t.setIfInBounds i v, defers := ds }) ∧ (∀ (t : Array Value) (ds : List Deferred) (v : Value), ({ tmps := t, defers := ds } : Act).put none v = { tmps := t, defers := ds }) ∧
    (∀ (l : List Value) (i : Nat) (v : Value), l.toArray.setIfInBounds i v = (l.set i v).toArray) ∧ (∀ (x : Value) (l : List Value) (v : Value), (x :: l).set 0 v = v :: l) ∧ (∀ (x : Value) (l : List Value) (n : Nat) (v : Value), (x :: l).set (n + 1) v = x :: l.set n v) :=
  ⟨fun _ _ _ _ => rfl, fun _ _ _ => rfl, fun _ _ _ => by simp, fun _ _ _ => rfl, fun _ _ _ _ => rfl⟩
section
variable {P : Program} {ops : Array Oper} {Q : Exit → Act → World → Prop} {md : Region.Mode} {S : World → Prop} {n : Nat}
/-- Whatever order is picked, what is assumed of the world holding behind all operations but those from the n-th on. -/
def AnyT (P : Program) (md : Region.Mode) (ops : Array Oper) (Q : Exit → Act → World → Prop) (S : World → Prop) (n : Nat) : Nat → Array Bool → Act → World → Prop
  | 0, done, a, w => Region.ready md ops done = [] ∧ Q .normal a w
  | f + 1, done, a, w => (Region.ready md ops done = [] → Q .normal a w) ∧ ∀ i ∈ Region.ready md ops done, wpOp P ops Q i (fun a' w' => (i < n → S w') ∧ AnyT P md ops Q S n f (done.setIfInBounds i true) a' w') a w
theorem any_of : ∀ (f : Nat) (done : Array Bool) (a : Act) (w : World), AnyT P md ops Q S n f done a w → wpAny P md ops Q f done a w
  | 0, _, _, _, h => h
  | f + 1, _, _, _, h => ⟨h.1, fun i hi => wpOp_mono (fun a' w' h' => any_of f _ a' w' h'.2) (h.2 i hi)⟩
/-- The operations from the n-th on wait for all that come before it. -/
def lateB (md : Region.Mode) (ops : Array Oper) (n : Nat) : Bool :=
  (List.range ops.size).all fun t => decide (t < n) || (List.range n).all fun i => match ops[t]? with | some o => o.after.any fun e => Region.binds md e && e.on == i | none => false
theorem late_waits (h : lateB md ops n = true) {t i : Nat} {o : Oper} (ho : ops[t]? = some o) (ht : n ≤ t) (hi : i < n) : ∃ e ∈ o.after, Region.binds md e = true ∧ e.on = i := by
  unfold lateB at h
  rw [List.all_eq_true] at h
  have h1 := h t (List.mem_range.2 (Array.getElem?_eq_some_iff.1 ho).1)
  rw [Bool.or_eq_true, decide_eq_true_eq, List.all_eq_true] at h1
  rcases h1 with h1 | h1
  · omega
  · have h2 := h1 i (List.mem_range.2 hi)
    rw [ho] at h2
    obtain ⟨e, he, hb⟩ := Array.any_eq_true'.1 h2
    rw [Bool.and_eq_true, beq_iff_eq] at hb
    exact ⟨e, he, hb⟩
theorem any_first (hl : lateB md ops n = true) {i : Nat} (hin : i < n) {oi : Oper} {v : Value} (hi : ops[i]? = some oi) (hsel : Region.noSelect ops = true)
    (hQ : ∀ c a w, Q (.panic c) (a.put oi.dst v) w → Q (.panic c) a w) (f : Nat) : ∀ (done : Array Bool) (a : Act) (w : World),
      (∀ j oj, ops[j]? = some oj → j ≠ i → done.getD j true = false → (∀ e ∈ oj.after, Region.binds md e = true → e.on ≠ i) → oi.apart ops oj = true) →
      i ∈ Region.ready md ops done → YieldsIf P ops S oi v a → S w → AnyT P md ops Q S n f (done.setIfInBounds i true) (a.put oi.dst v) w → AnyT P md ops Q S n (f + 1) done a w := by
  induction f with
  | zero =>
    intro done a w _ hr hy hS hx
    constructor
    · intro h; rw [h] at hr; cases hr
    · intro j hj
      rcases Nat.decEq j i with hne | he
      · have := ready_mono hj hne
        rw [hx.1] at this
        cases this
      · rw [he]; exact hy.wpOp hi hS ⟨fun _ => hS, hx⟩
  | succ f ih =>
    intro done a w hfree hr hy hS hx
    constructor
    · intro h; rw [h] at hr; cases hr
    · intro j hj
      rcases Nat.decEq j i with hne | he
      · have hstep := hx.2 j (ready_mono hj hne)
        obtain ⟨hju, oj, hoj, hall⟩ := mem_ready.1 hj
        have hfirst : done.getD i false = false := by
          have h0 := (mem_ready.1 hr).1
          rcases Nat.lt_or_ge i done.size with h' | h'
          · simp [h'] at h0 ⊢; exact h0
          · simp [Array.getElem?_eq_none h']
        have hno : ∀ e ∈ oj.after, Region.binds md e = true → e.on ≠ i := fun e he hb heq => by
          have := hall e he hb
          rw [heq, hfirst] at this
          cases this
        have hjn : j < n := by
          rcases Nat.lt_or_ge j n with h | h
          · exact h
          · obtain ⟨e, he, hb, hon⟩ := late_waits hl hoj h hin
            exact absurd hon (hno e he hb)
        have hsel' := Region.noSelect_spec hsel
        refine wpOp_mono (fun a' w' h3 => ?_) (wpOp_putIf hoj (hfree j oj hoj hne hju hno) (fun cs b => hsel' i oi cs b hi) (fun cs b => hsel' j oj cs b hoj) hQ hy hstep)
        obtain ⟨hy', hs', hx'⟩ := h3
        refine ⟨hs', ih _ a' w' (fun k ok hk hki hun hno' => hfree k ok hk hki ?_ hno') (ready_mono hr (Ne.symm hne)) hy' (hs' hjn) ?_⟩
        · rcases Nat.decEq j k with h | h
          · rwa [getD_set_ne true h] at hun
          · rw [← h]; exact hju
        · rw [Array.setIfInBounds_comm _ _ hne]; exact hx'
      · rw [he]; exact hy.wpOp hi hS ⟨fun _ => hS, hx⟩
theorem any_take (hl : lateB md ops n = true) {i : Nat} {oi : Oper} {v : Value} {f : Nat} {done : Array Bool} {a : Act} {w : World} (hi : ops[i]? = some oi) (hin : decide (i < n) = true)
    (hs : Region.noSelect ops = true) (hf : Region.free md ops done i = true) (hr : (Region.ready md ops done).contains i = true)
    (hQ : ∀ c a w, Q (.panic c) (a.put oi.dst v) w → Q (.panic c) a w) (hy : YieldsIf P ops S oi v a) (hS : S w) (h : AnyT P md ops Q S n f (done.setIfInBounds i true) (a.put oi.dst v) w) : AnyT P md ops Q S n (f + 1) done a w :=
  any_first hl (of_decide_eq_true hin) hi hs hQ f done a w (Region.free_spec hi hf) (by simpa using hr) hy hS h
/-- The one operation that may come up now. -/
theorem any_next {i : Nat} {o : Oper} {f : Nat} {done : Array Bool} {a : Act} {w : World} (hr : Region.ready md ops done = [i]) (ho : ops[i]? = some o) (hin : decide (i < n) = true)
    (h : ∀ K : Act → World → Prop, Shut (∀ a w, S w → (S w → AnyT P md ops Q S n f (done.setIfInBounds i true) a w) → K a w) → if Region.wanted o (yielded ops a.tmps) = true then Oper.wp P o a w K Q else K (a.put o.dst undef) w) : AnyT P md ops Q S n (f + 1) done a w := by
  refine ⟨fun h0 => (by rw [hr] at h0; cases h0), fun j hj => ?_⟩
  rw [hr] at hj
  obtain rfl := List.mem_singleton.1 hj
  exact wpOp_step ho fun K hK => h K fun a' w' hS hx => hK a' w' ⟨fun _ => hS, hx hS⟩
theorem any_late {i : Nat} {o : Oper} {f : Nat} {done : Array Bool} {a : Act} {w : World} (hr : Region.ready md ops done = [i]) (ho : ops[i]? = some o) (hin : decide (n ≤ i) = true)
    (h : ∀ K : Act → World → Prop, Shut (∀ a w, AnyT P md ops Q S n f (done.setIfInBounds i true) a w → K a w) → if Region.wanted o (yielded ops a.tmps) = true then Oper.wp P o a w K Q else K (a.put o.dst undef) w) : AnyT P md ops Q S n (f + 1) done a w := by
  refine ⟨fun h0 => (by rw [hr] at h0; cases h0), fun j hj => ?_⟩
  rw [hr] at hj
  obtain rfl := List.mem_singleton.1 hj
  exact wpOp_step ho fun K hK => h K fun a' w' hx => hK a' w' ⟨fun hlt => absurd hlt (by have := of_decide_eq_true hin; omega), hx⟩
theorem any_done {done : Array Bool} {a : Act} {w : World} (hr : Region.ready md ops done = []) (h : Q .normal a w) : ∀ f, AnyT P md ops Q S n f done a w
  | 0 => ⟨hr, h⟩
  | _ + 1 => ⟨fun _ => h, by rw [hr]; simp⟩
theorem wp_region_late (S : World → Prop) (n : Nat) {id : Nat} {a : Act} {w : World} (hm : P.follows .mixedOrders = true) (hS : S w.drew) (h : S w.drew → AnyT P .any ops Q S n ops.size (Array.replicate ops.size false) a w.drew) : (Code.region id ops true).wp P Q a w :=
  wp_region_any hm (any_of _ _ _ _ (h hS))
end
theorem any_two {P : Program} {ops : Array Oper} {Q : Exit → Act → World → Prop} {md : Region.Mode} {S : World → Prop} {n : Nat} {i j : Nat} {oi oj : Oper} {f : Nat} {done : Array Bool} {a : Act} {w : World} (hr : Region.ready md ops done = [i, j]) (hi : ops[i]? = some oi) (hj : ops[j]? = some oj) (hin : decide (i < n) = true) (hjn : decide (j < n) = true)
    (h1 : ∀ K : Act → World → Prop, Shut (∀ a w, S w → (S w → AnyT P md ops Q S n f (done.setIfInBounds i true) a w) → K a w) → if Region.wanted oi (yielded ops a.tmps) = true then Oper.wp P oi a w K Q else K (a.put oi.dst undef) w)
    (h2 : ∀ K : Act → World → Prop, Shut (∀ a w, S w → (S w → AnyT P md ops Q S n f (done.setIfInBounds j true) a w) → K a w) → if Region.wanted oj (yielded ops a.tmps) = true then Oper.wp P oj a w K Q else K (a.put oj.dst undef) w) : AnyT P md ops Q S n (f + 1) done a w := by
  refine ⟨fun h0 => (by rw [hr] at h0; cases h0), fun k hk => ?_⟩
  rw [hr] at hk
  rcases List.mem_cons.1 hk with rfl | hk
  · exact wpOp_step hi fun K hK => h1 K fun a' w' hS hx => hK a' w' ⟨fun _ => hS, hx hS⟩
  · obtain rfl := List.mem_singleton.1 hk
    exact wpOp_step hj fun K hK => h2 K fun a' w' hS hx => hK a' w' ⟨fun _ => hS, hx hS⟩
theorem any_three {P : Program} {ops : Array Oper} {Q : Exit → Act → World → Prop} {md : Region.Mode} {S : World → Prop} {n : Nat} {i j k : Nat} {oi oj ok : Oper} {f : Nat} {done : Array Bool} {a : Act} {w : World} (hr : Region.ready md ops done = [i, j, k]) (hi : ops[i]? = some oi) (hj : ops[j]? = some oj) (hk : ops[k]? = some ok) (hin : decide (i < n) = true) (hjn : decide (j < n) = true) (hkn : decide (k < n) = true)
    (h1 : ∀ K : Act → World → Prop, Shut (∀ a w, S w → (S w → AnyT P md ops Q S n f (done.setIfInBounds i true) a w) → K a w) → if Region.wanted oi (yielded ops a.tmps) = true then Oper.wp P oi a w K Q else K (a.put oi.dst undef) w)
    (h2 : ∀ K : Act → World → Prop, Shut (∀ a w, S w → (S w → AnyT P md ops Q S n f (done.setIfInBounds j true) a w) → K a w) → if Region.wanted oj (yielded ops a.tmps) = true then Oper.wp P oj a w K Q else K (a.put oj.dst undef) w)
    (h3 : ∀ K : Act → World → Prop, Shut (∀ a w, S w → (S w → AnyT P md ops Q S n f (done.setIfInBounds k true) a w) → K a w) → if Region.wanted ok (yielded ops a.tmps) = true then Oper.wp P ok a w K Q else K (a.put ok.dst undef) w) : AnyT P md ops Q S n (f + 1) done a w := by
  refine ⟨fun h0 => (by rw [hr] at h0; cases h0), fun t ht => ?_⟩
  rw [hr] at ht
  rcases List.mem_cons.1 ht with rfl | ht
  · exact wpOp_step hi fun K hK => h1 K fun a' w' hS hx => hK a' w' ⟨fun _ => hS, hx hS⟩
  · rcases List.mem_cons.1 ht with rfl | ht
    · exact wpOp_step hj fun K hK => h2 K fun a' w' hS hx => hK a' w' ⟨fun _ => hS, hx hS⟩
    · obtain rfl := List.mem_singleton.1 ht
      exact wpOp_step hk fun K hK => h3 K fun a' w' hS hx => hK a' w' ⟨fun _ => hS, hx hS⟩
theorem any_merge {P : Program} {ops : Array Oper} {Q : Exit → Act → World → Prop} {md : Region.Mode} {S : World → Prop} {n f0 : Nat} {d0 : Array Bool} {a0 : Act} {w0 : World} (G : Nat → Array Bool → Act → World → Prop) (h1 : ∀ f d a w, G f d a w → AnyT P md ops Q S n f d a w) (h2 : (∀ f d a w, G f d a w → AnyT P md ops Q S n f d a w) → AnyT P md ops Q S n f0 d0 a0 w0) : AnyT P md ops Q S n f0 d0 a0 w0 := h2 h1
theorem below_set' {a w : World} {p : Addr} {v : Value} (h : Below a.heap.size a w) (hp : a.heap.size ≤ p.block) : Below a.heap.size a (w.setCell p v) := h.setCell hp v
end Go.Proofs.YtdibijhaiaiifaaDoor
/- A region that draws its order, with a late store: what is assumed of the world holds until the store is done. -/
namespace Go.Proofs.YtdibijhaiaiifaaDoor
/-- None of the late operations is done. -/
def freshB (late : List Nat) (done : Array Bool) : Bool := late.all fun t => !(done.getD t false)
theorem fresh_set {late : List Nat} {done : Array Bool} {i : Nat} (h : freshB late done = true) (hi : late.contains i = false) : freshB late (done.setIfInBounds i true) = true := by
  unfold freshB at h ⊢
  rw [List.all_eq_true] at h ⊢
  intro t ht
  have h1 := h t ht
  have hne : i ≠ t := fun e => by subst e; simp at hi; exact hi ht
  rw [Array.getD_eq_getD_getElem?] at h1 ⊢
  rw [Array.getElem?_setIfInBounds_ne hne]
  exact h1
theorem fresh_of {late : List Nat} {done : Array Bool} {i : Nat} (h : freshB late (done.setIfInBounds i true) = true) (hi : late.contains i = false) : freshB late done = true := by
  unfold freshB at h ⊢
  rw [List.all_eq_true] at h ⊢
  intro t ht
  have h1 := h t ht
  have hne : i ≠ t := fun e => by subst e; simp at hi; exact hi ht
  rw [Array.getD_eq_getD_getElem?] at h1 ⊢
  rw [Array.getElem?_setIfInBounds_ne hne] at h1
  exact h1
theorem stale {late : List Nat} {done : Array Bool} {p : Prop} (h : freshB late done = false) : freshB late done = true → p := fun k => by rw [h] at k; cases k
section
variable {P : Program} {ops : Array Oper} {Q : Exit → Act → World → Prop} {md : Region.Mode} {S : World → Prop} {late : List Nat}
def AnyL (P : Program) (md : Region.Mode) (ops : Array Oper) (Q : Exit → Act → World → Prop) (S : World → Prop) (late : List Nat) : Nat → Array Bool → Act → World → Prop
  | 0, done, a, w => Region.ready md ops done = [] ∧ Q .normal a w
  | f + 1, done, a, w => (Region.ready md ops done = [] → Q .normal a w) ∧ ∀ i ∈ Region.ready md ops done, wpOp P ops Q i (fun a' w' => (freshB late (done.setIfInBounds i true) = true → S w') ∧ AnyL P md ops Q S late f (done.setIfInBounds i true) a' w') a w
theorem anyL_of : ∀ (f : Nat) (done : Array Bool) (a : Act) (w : World), AnyL P md ops Q S late f done a w → wpAny P md ops Q f done a w
  | 0, _, _, _, h => h
  | f + 1, _, _, _, h => ⟨h.1, fun i hi => wpOp_mono (fun a' w' h' => anyL_of f _ a' w' h'.2) (h.2 i hi)⟩
/-- All late operations wait for i. -/
def awaited (md : Region.Mode) (ops : Array Oper) (late : List Nat) (i : Nat) : Bool := late.all fun t => match ops[t]? with | some o => o.after.any fun e => Region.binds md e && e.on == i | none => true
theorem awaited_spec {i : Nat} (h : awaited md ops late i = true) {t : Nat} {o : Oper} (ho : ops[t]? = some o) (ht : late.contains t = true) : ∃ e ∈ o.after, Region.binds md e = true ∧ e.on = i := by
  unfold awaited at h
  rw [List.all_eq_true] at h
  have h2 := h t (by simpa using ht)
  rw [ho] at h2
  obtain ⟨e, he, hb⟩ := Array.any_eq_true'.1 h2
  rw [Bool.and_eq_true, beq_iff_eq] at hb
  exact ⟨e, he, hb⟩
/-- What is true of the world while an operation may be brought forward: S if it is asked for. -/
theorem anyL_first {S0 : World → Prop} {i : Nat} (hiL : late.contains i = false) (hl : (∀ w, S0 w) ∨ (awaited md ops late i = true ∧ ∀ w, S w → S0 w)) {oi : Oper} {v : Value} (hi : ops[i]? = some oi) (hsel : Region.noSelect ops = true)
    (hQ : ∀ c a w, Q (.panic c) (a.put oi.dst v) w → Q (.panic c) a w) (f : Nat) : ∀ (done : Array Bool) (a : Act) (w : World),
      (∀ j oj, ops[j]? = some oj → j ≠ i → done.getD j true = false → (∀ e ∈ oj.after, Region.binds md e = true → e.on ≠ i) → oi.apart ops oj = true) →
      i ∈ Region.ready md ops done → YieldsIf P ops S0 oi v a → (freshB late done = true → S w) → ((∀ w, S0 w) ∨ freshB late done = true) → AnyL P md ops Q S late f (done.setIfInBounds i true) (a.put oi.dst v) w → AnyL P md ops Q S late (f + 1) done a w := by
  have hS0 : ∀ (done : Array Bool) (w : World), (freshB late done = true → S w) → ((∀ w, S0 w) ∨ freshB late done = true) → S0 w := fun done w h1 h2 => by
    rcases h2 with h2 | h2
    · exact h2 w
    · rcases hl with hl | ⟨_, hl⟩
      · exact hl w
      · exact hl w (h1 h2)
  induction f with
  | zero =>
    intro done a w hfree hr hy hS hF hx
    constructor
    · intro h; rw [h] at hr; cases hr
    · intro j hj
      rcases Nat.decEq j i with hne | he
      · have := ready_mono hj hne
        rw [hx.1] at this
        cases this
      · rw [he]; exact hy.wpOp hi (hS0 done w hS hF) ⟨fun h => hS (fresh_of h hiL), hx⟩
  | succ f ih =>
    intro done a w hfree hr hy hS hF hx
    constructor
    · intro h; rw [h] at hr; cases hr
    · intro j hj
      rcases Nat.decEq j i with hne | he
      · have hstep := hx.2 j (ready_mono hj hne)
        obtain ⟨hju, oj, hoj, hall⟩ := mem_ready.1 hj
        have hfirst : done.getD i false = false := by
          have h0 := (mem_ready.1 hr).1
          rcases Nat.lt_or_ge i done.size with h' | h'
          · simp [h'] at h0 ⊢; exact h0
          · simp [Array.getElem?_eq_none h']
        have hno : ∀ e ∈ oj.after, Region.binds md e = true → e.on ≠ i := fun e he hb heq => by
          have := hall e he hb
          rw [heq, hfirst] at this
          cases this
        have hsel' := Region.noSelect_spec hsel
        refine wpOp_mono (fun a' w' h3 => ?_) (wpOp_putIf hoj (hfree j oj hoj hne hju hno) (fun cs b => hsel' i oi cs b hi) (fun cs b => hsel' j oj cs b hoj) hQ hy hstep)
        obtain ⟨hy', hs', hx'⟩ := h3
        have hs2 : freshB late (done.setIfInBounds j true) = true → S w' := fun h => hs' (by rw [Array.setIfInBounds_comm _ _ (Ne.symm hne)]; exact fresh_set h hiL)
        have hF2 : (∀ w, S0 w) ∨ freshB late (done.setIfInBounds j true) = true := by
          rcases hF with hF | hF
          · exact .inl hF
          · rcases hl with hl | ⟨hl, _⟩
            · exact .inl hl
            · refine .inr (fresh_set hF ?_)
              cases hc : late.contains j with
              | false => rfl
              | true =>
                obtain ⟨e, he, hb, hon⟩ := awaited_spec hl hoj hc
                exact absurd hon (hno e he hb)
        refine ⟨hs2, ih _ a' w' (fun k ok hk hki hun hno' => hfree k ok hk hki ?_ hno') (ready_mono hr (Ne.symm hne)) hy' hs2 hF2 ?_⟩
        · rcases Nat.decEq j k with h | h
          · rwa [getD_set_ne true h] at hun
          · rw [← h]; exact hju
        · rw [Array.setIfInBounds_comm _ _ hne]; exact hx'
      · rw [he]; exact hy.wpOp hi (hS0 done w hS hF) ⟨fun h => hS (fresh_of h hiL), hx⟩
/-- An operation that reads what S says. -/
theorem anyL_read {i : Nat} {oi : Oper} {v : Value} {f : Nat} {done : Array Bool} {a : Act} {w : World} (hi : ops[i]? = some oi) (hiL : late.contains i = false) (hl : awaited md ops late i = true)
    (hs : Region.noSelect ops = true) (hf : Region.free md ops done i = true) (hr : (Region.ready md ops done).contains i = true)
    (hQ : ∀ c a w, Q (.panic c) (a.put oi.dst v) w → Q (.panic c) a w) (hy : YieldsIf P ops S oi v a) (hF : freshB late done = true) (hS : S w) (h : AnyL P md ops Q S late f (done.setIfInBounds i true) (a.put oi.dst v) w) : AnyL P md ops Q S late (f + 1) done a w :=
  anyL_first (S0 := S) hiL (.inr ⟨hl, fun _ h => h⟩) hi hs hQ f done a w (Region.free_spec hi hf) (by simpa using hr) hy (fun _ => hS) (.inr hF) h
/-- An operation that reads no memory. -/
theorem anyL_take {i : Nat} {oi : Oper} {v : Value} {f : Nat} {done : Array Bool} {a : Act} {w : World} (hi : ops[i]? = some oi) (hiL : late.contains i = false)
    (hs : Region.noSelect ops = true) (hf : Region.free md ops done i = true) (hr : (Region.ready md ops done).contains i = true)
    (hQ : ∀ c a w, Q (.panic c) (a.put oi.dst v) w → Q (.panic c) a w) (hy : YieldsIf P ops (fun _ => True) oi v a) (hS : freshB late done = true → S w) (h : AnyL P md ops Q S late f (done.setIfInBounds i true) (a.put oi.dst v) w) : AnyL P md ops Q S late (f + 1) done a w :=
  anyL_first (S0 := fun _ => True) hiL (.inl fun _ => trivial) hi hs hQ f done a w (Region.free_spec hi hf) (by simpa using hr) hy hS (.inl fun _ => trivial) h
/-- The one operation that may come up now. -/
theorem anyL_next {i : Nat} {o : Oper} {f : Nat} {done : Array Bool} {a : Act} {w : World} (hr : Region.ready md ops done = [i]) (ho : ops[i]? = some o)
    (h : ∀ K : Act → World → Prop, Shut (∀ a w, (freshB late (done.setIfInBounds i true) = true → S w) → ((freshB late (done.setIfInBounds i true) = true → S w) → AnyL P md ops Q S late f (done.setIfInBounds i true) a w) → K a w) → if Region.wanted o (yielded ops a.tmps) = true then Oper.wp P o a w K Q else K (a.put o.dst undef) w) : AnyL P md ops Q S late (f + 1) done a w := by
  refine ⟨fun h0 => (by rw [hr] at h0; cases h0), fun j hj => ?_⟩
  rw [hr] at hj
  obtain rfl := List.mem_singleton.1 hj
  exact wpOp_step ho fun K hK => h K fun a' w' hS hx => hK a' w' ⟨hS, hx hS⟩
theorem anyL_two {i j : Nat} {oi oj : Oper} {f : Nat} {done : Array Bool} {a : Act} {w : World} (hr : Region.ready md ops done = [i, j]) (hi : ops[i]? = some oi) (hj : ops[j]? = some oj)
    (h1 : ∀ K : Act → World → Prop, Shut (∀ a w, (freshB late (done.setIfInBounds i true) = true → S w) → ((freshB late (done.setIfInBounds i true) = true → S w) → AnyL P md ops Q S late f (done.setIfInBounds i true) a w) → K a w) → if Region.wanted oi (yielded ops a.tmps) = true then Oper.wp P oi a w K Q else K (a.put oi.dst undef) w)
    (h2 : ∀ K : Act → World → Prop, Shut (∀ a w, (freshB late (done.setIfInBounds j true) = true → S w) → ((freshB late (done.setIfInBounds j true) = true → S w) → AnyL P md ops Q S late f (done.setIfInBounds j true) a w) → K a w) → if Region.wanted oj (yielded ops a.tmps) = true then Oper.wp P oj a w K Q else K (a.put oj.dst undef) w) : AnyL P md ops Q S late (f + 1) done a w := by
  refine ⟨fun h0 => (by rw [hr] at h0; cases h0), fun k hk => ?_⟩
  rw [hr] at hk
  rcases List.mem_cons.1 hk with rfl | hk
  · exact wpOp_step hi fun K hK => h1 K fun a' w' hS hx => hK a' w' ⟨hS, hx hS⟩
  · obtain rfl := List.mem_singleton.1 hk
    exact wpOp_step hj fun K hK => h2 K fun a' w' hS hx => hK a' w' ⟨hS, hx hS⟩
theorem anyL_three {i j k : Nat} {oi oj ok : Oper} {f : Nat} {done : Array Bool} {a : Act} {w : World} (hr : Region.ready md ops done = [i, j, k]) (hi : ops[i]? = some oi) (hj : ops[j]? = some oj) (hk : ops[k]? = some ok)
    (h1 : ∀ K : Act → World → Prop, Shut (∀ a w, (freshB late (done.setIfInBounds i true) = true → S w) → ((freshB late (done.setIfInBounds i true) = true → S w) → AnyL P md ops Q S late f (done.setIfInBounds i true) a w) → K a w) → if Region.wanted oi (yielded ops a.tmps) = true then Oper.wp P oi a w K Q else K (a.put oi.dst undef) w)
    (h2 : ∀ K : Act → World → Prop, Shut (∀ a w, (freshB late (done.setIfInBounds j true) = true → S w) → ((freshB late (done.setIfInBounds j true) = true → S w) → AnyL P md ops Q S late f (done.setIfInBounds j true) a w) → K a w) → if Region.wanted oj (yielded ops a.tmps) = true then Oper.wp P oj a w K Q else K (a.put oj.dst undef) w)
    (h3 : ∀ K : Act → World → Prop, Shut (∀ a w, (freshB late (done.setIfInBounds k true) = true → S w) → ((freshB late (done.setIfInBounds k true) = true → S w) → AnyL P md ops Q S late f (done.setIfInBounds k true) a w) → K a w) → if Region.wanted ok (yielded ops a.tmps) = true then Oper.wp P ok a w K Q else K (a.put ok.dst undef) w) : AnyL P md ops Q S late (f + 1) done a w := by
  refine ⟨fun h0 => (by rw [hr] at h0; cases h0), fun t ht => ?_⟩
  rw [hr] at ht
  rcases List.mem_cons.1 ht with rfl | ht
  · exact wpOp_step hi fun K hK => h1 K fun a' w' hS hx => hK a' w' ⟨hS, hx hS⟩
  · rcases List.mem_cons.1 ht with rfl | ht
    · exact wpOp_step hj fun K hK => h2 K fun a' w' hS hx => hK a' w' ⟨hS, hx hS⟩
    · obtain rfl := List.mem_singleton.1 ht
      exact wpOp_step hk fun K hK => h3 K fun a' w' hS hx => hK a' w' ⟨hS, hx hS⟩
theorem anyL_done {done : Array Bool} {a : Act} {w : World} (hr : Region.ready md ops done = []) (h : Q .normal a w) : ∀ f, AnyL P md ops Q S late f done a w
  | 0 => ⟨hr, h⟩
  | _ + 1 => ⟨fun _ => h, by rw [hr]; simp⟩
/-- Ways that meet again. -/
theorem anyL_merge {f0 : Nat} {d0 : Array Bool} {a0 : Act} {w0 : World} (G : Nat → Array Bool → Act → World → Prop) (h1 : ∀ f d a w, G f d a w → AnyL P md ops Q S late f d a w) (h2 : (∀ f d a w, G f d a w → AnyL P md ops Q S late f d a w) → AnyL P md ops Q S late f0 d0 a0 w0) : AnyL P md ops Q S late f0 d0 a0 w0 := h2 h1
theorem wp_region_L (S : World → Prop) (late : List Nat) {id : Nat} {a : Act} {w : World} (hm : P.follows .mixedOrders = true) (hS : S w.drew) (h : S w.drew → AnyL P .any ops Q S late ops.size (Array.replicate ops.size false) a w.drew) : (Code.region id ops true).wp P Q a w :=
  wp_region_any hm (anyL_of _ _ _ _ (h hS))
end
end Go.Proofs.YtdibijhaiaiifaaDoor
/- Words for memory: values, tuples, rows; worlds that a call that only reads leaves; a region that draws its order and only reads, walked once. -/
namespace Go.Proofs.YtdibijhaiaiifaaDoor
open Go.RowKit
/-! ### values -/
def encB (c : UInt8) : List Value := [.int .u8 c.toNat]
def IsBytes (w : World) (v : Value) (l : List UInt8) : Prop := IsRows 1 encB w v l
def encVl (x : Vl) : List Value := [.int .i64 x.t, .int .i64 x.n, strV x.s]
def valV (x : Vl) : Value := .agg #[.int .i64 x.t, .int .i64 x.n, strV x.s]
def IsVals (w : World) (v : Value) (l : Tp) : Prop := IsRows 3 encVl w v l
theorem IsVals.keep {w w' : World} {v : Value} {l : Tp} (h : IsVals w v l) (hb : Below w.heap.size w w') : IsVals w' v l := IsRows.keep h (keeps_below hb)
theorem IsVals.nil (w : World) : IsVals w (.slice none 0 0) [] := ⟨none, 0, rfl, .inl rfl, by simp, by simp, by simp⟩
theorem IsSpans.nil (w : World) : IsSpans w (.slice none 0 0) [] := ⟨none, 0, rfl, .inl rfl, by simp, by simp, by simp⟩
theorem vals_at {w : World} {a : Option Addr} {l : Tp} (h : RowsAt 3 encVl w a l) {i : Nat} {x : Vl} (hi : l[i]? = some x) :
    ∃ b off, a = some ⟨b, off, none⟩ ∧ w.cell? ⟨b, off + i * 3, none⟩ = some (.int .i64 x.t) ∧ w.cell? ⟨b, off + i * 3 + 1, none⟩ = some (.int .i64 x.n) ∧ w.cell? ⟨b, off + i * 3 + 2, none⟩ = some (strV x.s) := by
  obtain ⟨b, off, ha, hc⟩ := h.at_ hi
  have hc := hc i x hi
  exact ⟨b, off, ha, hc 0 _ rfl, hc 1 _ rfl, hc 2 _ rfl⟩
/-! ### worlds behind a call that only reads -/
/-- Some draws, some blocks laid behind. -/
def Grew (w w' : World) : Prop := ∃ n os, w' = Go.Sort.grow (w.drewN n) os
theorem Grew.refl (w : World) : Grew w w := ⟨0, #[], by rw [Go.Sort.grow_empty]; rfl⟩
theorem Grew.drewN {w w' : World} (h : Grew w w') (k : Nat) : Grew w (w'.drewN k) := by
  obtain ⟨n, os, rfl⟩ := h
  exact ⟨n + k, os, by rw [← World.drewN_drewN]; rfl⟩
theorem Grew.drew {w w' : World} (h : Grew w w') : Grew w w'.drew := h.drewN 1
theorem Grew.alloc {w w' : World} (h : Grew w w') (o : Obj) : Grew w (w'.alloc o) := by
  obtain ⟨n, os, rfl⟩ := h
  exact ⟨n, os ++ #[o], by rw [Go.Sort.alloc_eq_grow, Go.Sort.grow_grow]⟩
theorem Grew.trans {a b c : World} (h : Grew a b) (k : Grew b c) : Grew a c := by
  obtain ⟨n, os, rfl⟩ := h
  obtain ⟨m, os', rfl⟩ := k
  exact ⟨n + m, os ++ os', by rw [← World.drewN_drewN]; show Go.Sort.grow (Go.Sort.grow ((a.drewN n).drewN m) os) os' = _; rw [Go.Sort.grow_grow]⟩
theorem Grew.below {w w' : World} (h : Grew w w') : Below w.heap.size w w' := by
  obtain ⟨n, os, rfl⟩ := h
  refine ⟨rfl, rfl, rfl, by rw [Go.Sort.size_grow]; exact Nat.le_add_right _ _, fun i hi => ?_⟩
  show (w.heap ++ os)[i]? = w.heap[i]?
  rw [Array.getElem?_append_left hi]
structure After (w : World) where
  w' : World
  ok : Grew w w'
instance (w : World) : Inhabited (After w) := ⟨⟨w, Grew.refl w⟩⟩
theorem After.cell {w : World} {a : Addr} {v : Value} (h : w.cell? a = some v) : ∀ p : After w, p.w'.cell? a = some v := fun p => cell_keep p.ok.below h
theorem After.call {w : World} {f : FuncId} {args : Array Value} {v : Value} {p : After w} (h : Calls Tryd.prog f args p.w' fun e w' => e = .returned v ∧ Grew p.w' w') : Calls Tryd.prog f args p.w' fun e w'' => e = .returned v ∧ ∃ q : After w, w'' = q.w' :=
  h.mono fun _ w'' ⟨he, hg⟩ => ⟨he, ⟨w'', p.ok.trans hg⟩, rfl⟩
theorem wp_region_after {id : Nat} {Q : Exit → Act → World → Prop} {a : Act} {w : World} {l : List Oper} (hm : Tryd.prog.follows .mixedOrders = true) (hB : Region.lexB .any l.toArray = true)
    (h : wpQuiet Tryd.prog l.toArray (fun w' => ∃ p : After w, w' = p.w') (fun a' => ∀ w', Grew w w' → Q .normal a' w') l a) : (Code.region id l.toArray true).wp Tryd.prog Q a w :=
  wp_region_quiet (C := fun w' => ∃ p : After w, w' = p.w') hm hB ⟨⟨w.drew, (Grew.refl w).drew⟩, rfl⟩ (by
    have e : (fun a' => ∀ w', Grew w w' → Q .normal a' w') = fun a' => ∀ w', (∃ p : After w, w' = p.w') → Q .normal a' w' := by
      funext a'
      refine propext ⟨fun h w' ⟨p, hp⟩ => by subst hp; exact h _ p.ok, fun h w' hg => h w' ⟨⟨w', hg⟩, rfl⟩⟩
    rw [← e]; simpa using h)
/-! ### comparisons -/
theorem isNaN_any (a : Int) (w : World) : Calls Tryd.prog 137 #[.int .i64 a] w fun e w' => e = .returned (.bool false) ∧ w = w' := by
  have h : (a != a) = false := by simp
  go_enter Tryd.func137, Tryd.ntmps137
  go_wp2
  go_ret
  exact ⟨rfl, rfl⟩
theorem cmpI_any (a b : Int) (w : World) : Calls Tryd.prog 115 #[.int .i64 a, .int .i64 b] w fun e w' => e = .returned (.int .i64 (cmpI a b)) ∧ w = w' := by
  obtain ⟨r, hr⟩ : ∃ r, cmpI a b = r := ⟨_, rfl⟩
  rw [hr]
  by_cases h1 : a < b
  · have : r = -1 := by rw [← hr]; simp [cmpI, h1]
    subst this
    clear hr
    go_enter Tryd.func115, Tryd.ntmps115
    go_wp2_with fail
    refine (isNaN_any _ _).mono ?_
    rintro e w1 ⟨rfl, rfl⟩
    go_wp2_with fail
    refine (isNaN_any _ _).mono ?_
    rintro e w1 ⟨rfl, rfl⟩
    go_wp2
    go_ret
    exact ⟨rfl, rfl⟩
  · by_cases h2 : b < a
    · have : r = 1 := by rw [← hr]; simp [cmpI, h1, h2]
      subst this
      clear hr
      go_enter Tryd.func115, Tryd.ntmps115
      go_wp2_with fail
      refine (isNaN_any _ _).mono ?_
      rintro e w1 ⟨rfl, rfl⟩
      go_wp2_with fail
      refine (isNaN_any _ _).mono ?_
      rintro e w1 ⟨rfl, rfl⟩
      go_wp2
      go_ret
      exact ⟨rfl, rfl⟩
    · have : r = 0 := by rw [← hr]; simp [cmpI, h1, h2]
      subst this
      clear hr
      go_enter Tryd.func115, Tryd.ntmps115
      go_wp2_with fail
      refine (isNaN_any _ _).mono ?_
      rintro e w1 ⟨rfl, rfl⟩
      go_wp2_with fail
      refine (isNaN_any _ _).mono ?_
      rintro e w1 ⟨rfl, rfl⟩
      go_wp2
      go_ret
      exact ⟨rfl, rfl⟩
end Go.Proofs.YtdibijhaiaiifaaDoor
/- The walks of package value's comparisons. -/
namespace Go.Proofs.YtdibijhaiaiifaaDoor
open Go.RowKit
theorem isNaNb_any (a : Int) (w : World) : Calls Tryd.prog 138 #[.int .u8 a] w fun e w' => e = .returned (.bool false) ∧ w = w' := by
  have h : (a != a) = false := by simp
  go_enter Tryd.func138, Tryd.ntmps138
  go_wp2
  go_ret
  exact ⟨rfl, rfl⟩
theorem cmpB8_any (a b : Int) (w : World) : Calls Tryd.prog 118 #[.int .u8 a, .int .u8 b] w fun e w' => e = .returned (.int .i64 (cmpI a b)) ∧ w = w' := by
  obtain ⟨r, hr⟩ : ∃ r, cmpI a b = r := ⟨_, rfl⟩
  rw [hr]
  by_cases h1 : a < b
  · have : r = -1 := by rw [← hr]; simp [cmpI, h1]
    subst this
    clear hr
    go_enter Tryd.func118, Tryd.ntmps118
    go_wp2_with fail
    refine (isNaNb_any _ _).mono ?_
    rintro e w1 ⟨rfl, rfl⟩
    go_wp2_with fail
    refine (isNaNb_any _ _).mono ?_
    rintro e w1 ⟨rfl, rfl⟩
    go_wp2
    go_ret
    exact ⟨rfl, rfl⟩
  · by_cases h2 : b < a
    · have : r = 1 := by rw [← hr]; simp [cmpI, h1, h2]
      subst this
      clear hr
      go_enter Tryd.func118, Tryd.ntmps118
      go_wp2_with fail
      refine (isNaNb_any _ _).mono ?_
      rintro e w1 ⟨rfl, rfl⟩
      go_wp2_with fail
      refine (isNaNb_any _ _).mono ?_
      rintro e w1 ⟨rfl, rfl⟩
      go_wp2
      go_ret
      exact ⟨rfl, rfl⟩
    · have : r = 0 := by rw [← hr]; simp [cmpI, h1, h2]
      subst this
      clear hr
      go_enter Tryd.func118, Tryd.ntmps118
      go_wp2_with fail
      refine (isNaNb_any _ _).mono ?_
      rintro e w1 ⟨rfl, rfl⟩
      go_wp2_with fail
      refine (isNaNb_any _ _).mono ?_
      rintro e w1 ⟨rfl, rfl⟩
      go_wp2
      go_ret
      exact ⟨rfl, rfl⟩
theorem cmpBfn_any (a b : Int) (w : World) : Calls Tryd.prog 117 #[.int .u8 a, .int .u8 b] w fun e w' => e = .returned (.int .i64 (cmpI a b)) ∧ w = w' := by
  go_enter Tryd.func117, Tryd.ntmps117
  go_wp2_with fail
  refine (cmpB8_any _ _ _).mono ?_
  rintro e w1 ⟨rfl, rfl⟩
  go_wp2
  go_ret
  exact ⟨rfl, rfl⟩
section
variable {α : Type} {f : α → α → Int}
theorem cmpL_end {a b : List α} {k : Nat} (hk : k = a.length) (hb : k ≤ b.length) (h : cmpL f (a.drop k) (b.drop k) = cmpL f a b) : cmpI a.length b.length = cmpL f a b := by
  rw [← h, hk, List.drop_length]
  rcases Nat.lt_or_ge a.length b.length with hlt | hge
  · rw [List.drop_eq_getElem_cons hlt]
    simp only [cmpL, cmpI]
    rw [if_pos (by omega)]
  · rw [List.drop_eq_nil_of_le hge]
    simp only [cmpL, cmpI]
    rw [if_neg (by omega), if_neg (by omega)]
theorem cmpL_long {a b : List α} {k : Nat} (hk : k < a.length) (hb : k = b.length) (h : cmpL f (a.drop k) (b.drop k) = cmpL f a b) : cmpL f a b = 1 := by
  rw [← h, hb, List.drop_length, List.drop_eq_getElem_cons (by omega)]
  rfl
theorem cmpL_other {a b : List α} {k : Nat} (hk : k < a.length) (hb : k < b.length) (h : cmpL f (a.drop k) (b.drop k) = cmpL f a b) (hc : ¬ f a[k] b[k] = 0) : cmpL f a b = f a[k] b[k] := by
  rw [← h, List.drop_eq_getElem_cons hk, List.drop_eq_getElem_cons hb, cmpL, if_neg hc]
theorem cmpL_next {a b : List α} {k : Nat} (hk : k < a.length) (hb : k < b.length) (h : cmpL f (a.drop k) (b.drop k) = cmpL f a b) (hc : f a[k] b[k] = 0) : cmpL f (a.drop (k + 1)) (b.drop (k + 1)) = cmpL f a b := by
  rw [← h, List.drop_eq_getElem_cons hk, List.drop_eq_getElem_cons hb, cmpL, if_pos hc]
end
theorem listsB_any (va vb : Value) (a b : List UInt8) (w : World) (ha : IsBytes w va a) (hb : IsBytes w vb b) :
    Calls Tryd.prog 116 #[va, vb, .func (.func 117) #[] #[]] w fun e w' => e = .returned (.int .i64 (cmpL cmpB a b)) ∧ w = w' := by
  obtain ⟨pa, ca, rfl, ha, hma⟩ := ha
  obtain ⟨pb, cb, rfl, hb, hmb⟩ := hb
  go_enter Tryd.func116, Tryd.ntmps116
  go_wp2
  go_loop [7, 8, 9, 12] (fun _ _ _ i => ∃ k : Nat, k ≤ a.length ∧ k ≤ b.length ∧ i = .int .i64 k ∧ cmpL cmpB (a.drop k) (b.drop k) = cmpL cmpB a b) (fun _ _ _ i => a.length - (intOf i).toNat)
  case atStart => exact ⟨0, Nat.zero_le _, Nat.zero_le _, rfl, rfl⟩
  case round =>
    obtain ⟨k, hk, hkb, rfl, hc⟩ := hrel
    have HC := Lib.hid hc
    clear hc
    by_cases hlt : k < a.length
    · obtain ⟨b1, o1, rfl, c1⟩ := ha.one (List.getElem?_eq_getElem hlt) rfl
      by_cases hlb : k < b.length
      · obtain ⟨b2, o2, rfl, c2⟩ := hb.one (List.getElem?_eq_getElem hlb) rfl
        have hne : ((k : Int) == b.length) = false := by rw [beq_eq_false_iff_ne]; omega
        obtain ⟨r, hr⟩ : ∃ r, cmpI (a[k].toNat : Int) (b[k].toNat : Int) = r := ⟨_, rfl⟩
        by_cases h0 : r = 0
        · have hn := Lib.hid (cmpL_next hlt hlb HC.out (show cmpB a[k] b[k] = 0 from hr.trans h0))
          subst h0
          generalize a[k] = x at *
          generalize b[k] = y at *
          go_wp2_with fail
          refine (cmpBfn_any _ _ _).mono ?_
          rintro e w1 ⟨rfl, rfl⟩
          rw [hr]
          clear hr
          go_wp2
          go_round
          case rel => exact ⟨k + 1, by omega, by omega, by go_num, hn.out⟩
          case measure => simp [intOf]; omega
        · have hn := Lib.hid (cmpL_other hlt hlb HC.out (show ¬ cmpB a[k] b[k] = 0 from fun e => h0 (hr.symm.trans e)))
          have hE : cmpB a[k] b[k] = r := hr
          rw [hE] at hn
          clear hE
          have hr0 : (r != 0) = true := by simpa using h0
          generalize a[k] = x at *
          generalize b[k] = y at *
          go_wp2_with fail
          refine (cmpBfn_any _ _ _).mono ?_
          rintro e w1 ⟨rfl, rfl⟩
          rw [hr]
          clear hr h0
          go_wp2
          go_ret
          exact ⟨by rw [hn.out]; rfl, rfl⟩
      · have hkl : k = b.length := by omega
        have hn := Lib.hid (cmpL_long hlt hkl HC.out)
        have hne : ((k : Int) == b.length) = true := by rw [beq_iff_eq]; omega
        generalize a[k] = x at *
        clear hkl
        go_wp2
        go_ret
        exact ⟨by rw [hn.out]; rfl, rfl⟩
    · have hn := Lib.hid (cmpL_end (f := cmpB) (show k = a.length by omega) hkb HC.out)
      go_wp2_with fail
      refine (cmpI_any _ _ _).mono ?_
      rintro e w1 ⟨rfl, rfl⟩
      rw [hn.out]
      go_wp2
      go_ret
      exact ⟨rfl, rfl⟩
end Go.Proofs.YtdibijhaiaiifaaDoor
/- The walks of package value's Compare and CompareTuple. -/
namespace Go.Proofs.YtdibijhaiaiifaaDoor
open Go.RowKit
theorem grew_bytes (w : World) (s : ByteArray) : Grew w (Lib.bytesWorld w 5 s) := by
  refine ⟨1, #[.cells (Lib.bytesCells w 5 s) 5 ((Lib.bytesCells w 5 s).size, (Lib.bytesCells w 5 s).size + 1)], ?_⟩
  have hh : (Lib.bytesWorld w 5 s).heap = w.heap ++ #[.cells (Lib.bytesCells w 5 s) 5 ((Lib.bytesCells w 5 s).size, (Lib.bytesCells w 5 s).size + 1)] := by
    apply Array.ext_getElem?
    intro i
    rcases Nat.lt_trichotomy i w.heap.size with h | h | h
    · rw [Lib.bytesWorld_at_old w 5 s i h, Array.getElem?_append_left h]
    · subst h
      rw [Lib.bytesWorld_at_new, Array.getElem?_append_right (Nat.le_refl _)]; simp
    · rw [Array.getElem?_eq_none (by rw [Lib.bytesWorld_size]; omega), Array.getElem?_eq_none (by simp; omega)]
  have e : Lib.bytesWorld w 5 s = { w.drew with heap := (Lib.bytesWorld w 5 s).heap } := by
    unfold Lib.bytesWorld World.freeze
    rw [if_neg (by decide)]
    rfl
  rw [e, hh]
  rfl
theorem bytes_conv (w : World) (l : List UInt8) (hl : l.length ≤ 9223372036854775807) : ∃ c, (convert 9 117 (strV l)).run Tryd.prog w = .ok (.slice (some ⟨w.heap.size, 0, none⟩) l.length c) (Lib.bytesWorld w 5 ⟨l.toArray⟩) ∧ IsBytes (Lib.bytesWorld w 5 ⟨l.toArray⟩) (.slice (some ⟨w.heap.size, 0, none⟩) l.length c) l := by
  have h := Lib.run_convert_string_bytes (P := Tryd.prog) w 9 117 5 ⟨l.toArray⟩ Tryd.underlying9 Tryd.underlying117 Tryd.underlying5
  have hs : (ByteArray.mk l.toArray).size = l.length := by simp [ByteArray.size]
  rw [hs] at h
  refine ⟨_, h, _, _, rfl, .inr ⟨_, 0, rfl, fun i x hi j u hj => ?_⟩, hl, grownCap_ge w _ 0 5, grownCap_le_maxLen w _ 0 5 hl⟩
  have hj0 : j = 0 := by
    rcases j with _ | j
    · rfl
    · simp [encB] at hj
  subst hj0
  obtain rfl : Value.int .u8 x.toNat = u := by simpa [encB] using hj
  have hlt : i < l.length := (List.getElem?_eq_some_iff.1 hi).1
  have := Lib.bytesWorld_cell w 5 ⟨l.toArray⟩ i (by rw [hs]; exact hlt)
  rw [show (0 : Nat) + i * 1 + 0 = i from by omega, this]
  have hx : l[i] = x := by rw [List.getElem?_eq_getElem hlt] at hi; exact Option.some.inj hi
  simp [hlt, hx]
theorem cmpV_one {a b : Vl} {r : Int} (h : cmpI a.t b.t = r) (hr : ¬ r = 0) : cmpV a b = r := by unfold cmpV; rw [h, if_neg hr]
theorem cmpV_two {a b : Vl} {r : Int} (h0 : cmpI a.t b.t = 0) (h : cmpI a.n b.n = r) (hr : ¬ r = 0) : cmpV a b = r := by unfold cmpV; rw [h0, h, if_pos rfl, if_neg hr]
theorem cmpV_three {a b : Vl} (h0 : cmpI a.t b.t = 0) (h : cmpI a.n b.n = 0) : cmpV a b = cmpL cmpB a.s b.s := by unfold cmpV; rw [h0, h, if_pos rfl, if_pos rfl]
theorem cells3 (w : World) (x y z : Value) (t : TypeId) : (w.alloc (.cells #[x, y, z] t)).cell? ⟨w.heap.size, 0, none⟩ = some x ∧ (w.alloc (.cells #[x, y, z] t)).cell? ⟨w.heap.size, 1, none⟩ = some y ∧ (w.alloc (.cells #[x, y, z] t)).cell? ⟨w.heap.size, 2, none⟩ = some z := by
  have e : (w.alloc (.cells #[x, y, z] t)).heap[w.heap.size]? = some (.cells #[x, y, z] t) := World.alloc_heap_new w _
  exact ⟨cell_at e rfl, cell_at e rfl, cell_at e rfl⟩
set_option maxHeartbeats 1000000 in
theorem Compare_any (a b : Vl) (w : World) : Calls Tryd.prog 67 #[valV a, valV b] w fun e w' => e = .returned (.int .i64 (cmpV a b)) ∧ Grew w w' := by
  obtain ⟨ta, an, sa, hal⟩ := a
  obtain ⟨tb, bn, sb, hbl⟩ := b
  unfold valV
  obtain ⟨r, hr⟩ : ∃ r, cmpI ta tb = r := ⟨_, rfl⟩
  obtain ⟨q, hq⟩ : ∃ q, cmpI an bn = q := ⟨_, rfl⟩
  have b1 : Grew w ((w.alloc (.cells #[.int .i64 ta, .int .i64 an, strV sa] 58)).alloc (.cells #[.int .i64 tb, .int .i64 bn, strV sb] 58)) := ((Grew.refl w).alloc _).alloc _
  obtain ⟨x0, x1, x2⟩ := cells3 w (.int .i64 ta) (.int .i64 an) (strV sa) 58
  obtain ⟨y0, y1, y2⟩ := cells3 (w.alloc (.cells #[.int .i64 ta, .int .i64 an, strV sa] 58)) (.int .i64 tb) (.int .i64 bn) (strV sb) 58
  have bb := below_new (w.alloc (.cells #[.int .i64 ta, .int .i64 an, strV sa] 58)) (.cells #[.int .i64 tb, .int .i64 bn, strV sb] 58)
  replace x0 := cell_keep bb x0
  replace x1 := cell_keep bb x1
  replace x2 := cell_keep bb x2
  clear bb
  rw [show (w.alloc (.cells #[.int .i64 ta, .int .i64 an, strV sa] 58)).heap.size = w.heap.size + 1 by simp] at y0 y1 y2
  have sz : ((w.alloc (.cells #[.int .i64 ta, .int .i64 an, strV sa] 58)).alloc (.cells #[.int .i64 tb, .int .i64 bn, strV sb] 58)).heap.size = w.heap.size + 2 := by simp
  go_enter Tryd.func67, Tryd.ntmps67
  go_upto_region 1 with fail
  obtain ⟨w0, hw0⟩ : ∃ x : World, x = (w.alloc (.cells #[.int .i64 ta, .int .i64 an, strV sa] 58)).alloc (.cells #[.int .i64 tb, .int .i64 bn, strV sb] 58) := ⟨_, rfl⟩
  rw [← hw0] at x0 x1 x2 y0 y1 y2 b1 sz
  rw [← hw0]
  clear hw0
  have SZ := Lib.hid sz
  clear sz
  go_wp2_with fail
  refine (cmpI_any _ _ _).mono ?_
  rintro e w1 ⟨rfl, rfl⟩
  rw [hr]
  by_cases h0 : r = 0
  · subst h0
    go_wp2_with fail
    refine (cmpI_any _ _ _).mono ?_
    rintro e w1 ⟨rfl, rfl⟩
    rw [hq]
    by_cases h1 : q = 0
    · subst h1
      have HR := Lib.hid (cmpV_three (a := ⟨ta, an, sa, hal⟩) (b := ⟨tb, bn, sb, hbl⟩) hr hq)
      obtain ⟨ca, c1, i1⟩ := bytes_conv w0 sa hal
      obtain ⟨cb, c2, i2⟩ := bytes_conv (Lib.bytesWorld w0 5 ⟨sa.toArray⟩) sb hbl
      have g1 := grew_bytes w0 ⟨sa.toArray⟩
      have g2 := grew_bytes (Lib.bytesWorld w0 5 ⟨sa.toArray⟩) ⟨sb.toArray⟩
      have y3 := cell_keep g1.below y2
      replace i1 := i1.keep (keeps_below g2.below)
      have g := (b1.trans g1).trans g2
      clear g1 g2 hr hq x0 x1 y0 y1 y2 b1
      generalize Lib.bytesWorld (Lib.bytesWorld w0 5 ⟨sa.toArray⟩) 5 ⟨sb.toArray⟩ = w2 at *
      generalize Lib.bytesWorld w0 5 ⟨sa.toArray⟩ = w1 at *
      go_wp2_with fail
      refine (listsB_any _ _ sa sb _ i1 i2).mono ?_
      rintro e w3 ⟨rfl, rfl⟩
      rw [← HR.out]
      go_wp2
      go_ret
      exact ⟨rfl, g⟩
    · have h1' : (q != 0) = true := by simpa using h1
      have HR := Lib.hid (cmpV_two (a := ⟨ta, an, sa, hal⟩) (b := ⟨tb, bn, sb, hbl⟩) hr hq h1)
      clear hr hq h1
      go_wp2
      go_ret
      exact ⟨by rw [HR.out]; rfl, b1⟩
  · have h0' : (r != 0) = true := by simpa using h0
    have HR := Lib.hid (cmpV_one (a := ⟨ta, an, sa, hal⟩) (b := ⟨tb, bn, sb, hbl⟩) hr h0)
    clear hr hq h0
    go_wp2
    go_ret
    exact ⟨by rw [HR.out]; rfl, b1⟩
set_option maxHeartbeats 1000000 in
theorem listsV_any (va vb : Value) (a b : Tp) (w : World) (ha : IsVals w va a) (hb : IsVals w vb b) :
    Calls Tryd.prog 122 #[va, vb, .func (.func 67) #[] #[]] w fun e w' => e = .returned (.int .i64 (cmpT a b)) ∧ Grew w w' := by
  obtain ⟨pa, ca, rfl, ha, hma⟩ := ha
  obtain ⟨pb, cb, rfl, hb, hmb⟩ := hb
  go_enter Tryd.func122, Tryd.ntmps122
  go_wp2
  go_loopw [7, 8, 9, 12] (fun _ _ _ i wr => ∃ k : Nat, k ≤ a.length ∧ k ≤ b.length ∧ i = .int .i64 k ∧ cmpL cmpV (a.drop k) (b.drop k) = cmpT a b ∧ Grew w wr) (fun _ _ _ i _ => a.length - (intOf i).toNat)
  case atStart => exact ⟨0, Nat.zero_le _, Nat.zero_le _, rfl, rfl, Grew.refl _⟩
  case round =>
    obtain ⟨k, hk, hkb, rfl, hc, hg⟩ := hrel
    have HC := Lib.hid hc
    clear hc
    by_cases hlt : k < a.length
    · obtain ⟨b1, o1, rfl, c0, c1, c2⟩ := vals_at (ha.keep (keeps_below hg.below)) (List.getElem?_eq_getElem hlt)
      by_cases hlb : k < b.length
      · obtain ⟨b2, o2, rfl, d0, d1, d2⟩ := vals_at (hb.keep (keeps_below hg.below)) (List.getElem?_eq_getElem hlb)
        have hne : ((k : Int) == b.length) = false := by rw [beq_eq_false_iff_ne]; omega
        obtain ⟨r, hr⟩ : ∃ r, cmpV a[k] b[k] = r := ⟨_, rfl⟩
        have HN1 := Lib.hid (fun h0 : cmpV a[k] b[k] = 0 => cmpL_next hlt hlb HC.out h0)
        have HN2 := Lib.hid (fun h0 : ¬ cmpV a[k] b[k] = 0 => cmpL_other hlt hlb HC.out h0)
        rw [hr] at HN1 HN2
        obtain ⟨x, hx⟩ : ∃ x, x = a[k] := ⟨_, rfl⟩
        obtain ⟨y, hy⟩ : ∃ y, y = b[k] := ⟨_, rfl⟩
        rw [← hx] at c0 c1 c2 hr
        rw [← hy] at d0 d1 d2 hr
        clear hx hy
        have HRR := Lib.hid hr
        clear hr
        go_upto_region 6 with fail
        obtain ⟨e0, e1, e2⟩ := cells3 wr (.int .i64 x.t) (.int .i64 x.n) (strV x.s) 58
        have bB := below_new wr (.cells #[.int .i64 x.t, .int .i64 x.n, strV x.s] 58)
        have gB := hg.alloc (.cells #[.int .i64 x.t, .int .i64 x.n, strV x.s] 58)
        replace d0 := cell_keep bB d0
        replace d1 := cell_keep bB d1
        replace d2 := cell_keep bB d2
        obtain ⟨wB, hwB⟩ : ∃ x1 : World, x1 = wr.alloc (.cells #[.int .i64 x.t, .int .i64 x.n, strV x.s] 58) := ⟨_, rfl⟩
        rw [← hwB] at d0 d1 d2 e0 e1 e2 gB
        rw [← hwB]
        clear hwB bB c0 c1 c2
        replace d0 := After.cell d0
        replace d1 := After.cell d1
        replace d2 := After.cell d2
        replace e0 := After.cell e0
        replace e1 := After.cell e1
        replace e2 := After.cell e2
        refine wp_region_after (by kernel_rfl) (by kernel_rfl) ?_
        repeat (quiet_step ((go_at_call 67; exact After.call (Compare_any x y _))))
        refine wpQuiet_nil ?_
        intro w2 hg2
        rw [HRR.out]
        have g2 := gB.trans hg2
        by_cases h0 : r = 0
        · have HN := Lib.hid (HN1.out h0)
          subst h0
          clear HN1 HN2 e0 e1 e2 d0 d1 d2
          go_wp2
          go_roundw
          case rel => exact ⟨k + 1, by omega, by omega, by go_num, HN.out, g2⟩
          case measure => simp [intOf]; omega
        · have HN := Lib.hid (HN2.out h0)
          have hr0 : (r != 0) = true := by simpa using h0
          clear HN1 HN2 h0 e0 e1 e2 d0 d1 d2
          go_wp2
          go_ret
          exact ⟨by rw [show cmpT a b = r from HN.out]; rfl, g2⟩
      · have hkl : k = b.length := by omega
        have hn := Lib.hid (cmpL_long hlt hkl HC.out)
        have hne : ((k : Int) == b.length) = true := by rw [beq_iff_eq]; omega
        generalize a[k] = x at *
        clear hkl
        go_wp2
        go_ret
        exact ⟨by rw [show cmpT a b = 1 from hn.out]; rfl, hg.alloc _⟩
    · have hn := Lib.hid (cmpL_end (f := cmpV) (show k = a.length by omega) hkb HC.out)
      go_wp2_with fail
      refine (cmpI_any _ _ _).mono ?_
      rintro e w1 ⟨rfl, rfl⟩
      rw [hn.out]
      go_wp2
      go_ret
      exact ⟨rfl, hg⟩
theorem CompareTuple_any (va vb : Value) (a b : Tp) (w : World) (ha : IsVals w va a) (hb : IsVals w vb b) :
    Calls Tryd.prog 77 #[va, vb] w fun e w' => e = .returned (.int .i64 (cmpT a b)) ∧ Grew w w' := by
  go_enter Tryd.func77, Tryd.ntmps77
  go_wp2_with fail
  refine (listsV_any va vb a b _ ha hb).mono ?_
  rintro e w1 ⟨rfl, hg⟩
  go_wp2
  go_ret
  exact ⟨rfl, hg⟩
end Go.Proofs.YtdibijhaiaiifaaDoor
/- The walks of the reference's comparisons of values. -/
namespace Go.Proofs.YtdibijhaiaiifaaDoor
open Go.RowKit
theorem ints_any (a b : Int) (w : World) : Calls Tryd.prog 94 #[.int .i64 a, .int .i64 b] w fun e w' => e = .returned (.int .i64 (cmpI a b)) ∧ w = w' := by
  obtain ⟨r, hr⟩ : ∃ r, cmpI a b = r := ⟨_, rfl⟩
  rw [hr]
  by_cases h1 : a < b
  · have : r = -1 := by rw [← hr]; simp [cmpI, h1]
    subst this
    clear hr
    go_enter Tryd.func94, Tryd.ntmps94
    go_wp2
    go_ret
    exact ⟨rfl, rfl⟩
  · by_cases h2 : b < a
    · have : r = 1 := by rw [← hr]; simp [cmpI, h1, h2]
      subst this
      clear hr
      go_enter Tryd.func94, Tryd.ntmps94
      go_wp2
      go_ret
      exact ⟨rfl, rfl⟩
    · have : r = 0 := by rw [← hr]; simp [cmpI, h1, h2]
      subst this
      clear hr
      go_enter Tryd.func94, Tryd.ntmps94
      go_wp2
      go_ret
      exact ⟨rfl, rfl⟩
section
variable {α : Type} {f : α → α → Int}
/-- Both at hand or one at its end: the lengths decide. -/
theorem cmpL_over {a b : List α} {k : Nat} (hk : k ≤ a.length) (hb : k ≤ b.length) (ho : ¬ (k < a.length ∧ k < b.length)) (h : cmpL f (a.drop k) (b.drop k) = cmpL f a b) : cmpI a.length b.length = cmpL f a b := by
  by_cases h1 : k < a.length
  · have hkb : k = b.length := by omega
    rw [cmpL_long h1 hkb h, cmpI, if_neg (by omega), if_pos (by omega)]
  · exact cmpL_end (by omega) hb h
end
theorem wrap8 (x : UInt8) : IntKind.i64.wrap (x.toNat : Int) = (x.toNat : Int) := by
  have := x.toNat_lt
  rw [IntKind.wrap_i64]; omega
theorem texts_any (a b : List UInt8) (hal : a.length ≤ 9223372036854775807) (w : World) : Calls Tryd.prog 130 #[strV a, strV b] w fun e w' => e = .returned (.int .i64 (cmpL cmpB a b)) ∧ Grew w w' := by
  have sa : (ByteArray.mk a.toArray).size = a.length := by simp [ByteArray.size]
  have sb : (ByteArray.mk b.toArray).size = b.length := by simp [ByteArray.size]
  go_enter Tryd.func130, Tryd.ntmps130
  go_wp2
  go_loopw [5] (fun i wr => ∃ k : Nat, k ≤ a.length ∧ k ≤ b.length ∧ i = .int .i64 k ∧ cmpL cmpB (a.drop k) (b.drop k) = cmpL cmpB a b ∧ Grew w wr) (fun i _ => a.length - (intOf i).toNat)
  case atStart => exact ⟨0, Nat.zero_le _, Nat.zero_le _, rfl, rfl, Grew.refl _⟩
  case round =>
    obtain ⟨k, hk, hkb, rfl, hc, hg⟩ := hrel
    have HC := Lib.hid hc
    clear hc
    by_cases hlt : k < a.length
    · by_cases hlb : k < b.length
      · have ta : k < (ByteArray.mk a.toArray).size := by rw [sa]; exact hlt
        have tb : k < (ByteArray.mk b.toArray).size := by rw [sb]; exact hlb
        go_upto_region 4 with fail
        go_quiet (fail)
        have ex : (ByteArray.mk a.toArray)[k] = a[k] := rfl
        have ey : (ByteArray.mk b.toArray)[k] = b[k] := rfl
        rw [ex, ey]
        have gq := hg.drewN nq
        obtain ⟨r, hr⟩ : ∃ r, cmpI (a[k].toNat : Int) (b[k].toNat : Int) = r := ⟨_, rfl⟩
        by_cases h0 : r = 0
        · have hn := Lib.hid (cmpL_next hlt hlb HC.out (show cmpB a[k] b[k] = 0 from hr.trans h0))
          have hq : ((a[k].toNat : Int) != (b[k].toNat : Int)) = false := by
            have := (cmpI_is.eq _ _).1 (hr.trans h0)
            rw [this]; simp
          rw [hq]
          clear hq hr h0 ex ey
          go_wp2
          go_roundw
          case rel => exact ⟨k + 1, by omega, by omega, by go_num, hn.out, gq⟩
          case measure => simp [intOf]; omega
        · have hn := Lib.hid (cmpL_other hlt hlb HC.out (show ¬ cmpB a[k] b[k] = 0 from fun e => h0 (hr.symm.trans e)))
          have hE : cmpB a[k] b[k] = r := hr
          rw [hE] at hn
          have hq : ((a[k].toNat : Int) != (b[k].toNat : Int)) = true := by
            rw [bne_iff_ne]; intro e; exact h0 (hr.symm.trans ((cmpI_is.eq _ _).2 e))
          rw [hq]
          have wa : IntKind.i64.wrap ((ByteArray.mk a.toArray)[k].toNat : Int) = (a[k].toNat : Int) := wrap8 _
          have wb : IntKind.i64.wrap ((ByteArray.mk b.toArray)[k].toNat : Int) = (b[k].toNat : Int) := wrap8 _
          clear hq hE ex ey h0
          have HRR := Lib.hid hr
          clear hr
          go_upto_region 5 with fail
          refine wp_region_after (by kernel_rfl) (by kernel_rfl) ?_
          repeat (quiet_step ((go_at_call 94; exact After.call ((ints_any (a[k].toNat : Int) (b[k].toNat : Int) _).mono fun e w' ⟨h1, h2⟩ => ⟨h1, by subst h2; exact Grew.refl _⟩))))
          refine wpQuiet_nil ?_
          intro w2 hg2
          rw [HRR.out]
          have gq2 := gq.trans hg2
          go_wp2
          go_ret
          exact ⟨by rw [hn.out]; rfl, gq2⟩
      · have hn := Lib.hid (cmpL_over (f := cmpB) hk hkb (by omega) HC.out)
        clear HC
        go_wp2_with fail
        refine (ints_any _ _ _).mono ?_
        rintro e w1 ⟨rfl, rfl⟩
        rw [hn.out]
        go_wp2
        go_ret
        exact ⟨rfl, hg⟩
    · have hn := Lib.hid (cmpL_over (f := cmpB) hk hkb (by omega) HC.out)
      clear HC
      go_wp2_with fail
      refine (ints_any _ _ _).mono ?_
      rintro e w1 ⟨rfl, rfl⟩
      rw [hn.out]
      go_wp2
      go_ret
      exact ⟨rfl, hg⟩
set_option maxHeartbeats 1000000 in
theorem rCompare_any (a b : Vl) (w : World) : Calls Tryd.prog 93 #[valV a, valV b] w fun e w' => e = .returned (.int .i64 (cmpV a b)) ∧ Grew w w' := by
  obtain ⟨ta, an, sa, hal⟩ := a
  obtain ⟨tb, bn, sb, hbl⟩ := b
  unfold valV
  obtain ⟨r, hr⟩ : ∃ r, cmpI ta tb = r := ⟨_, rfl⟩
  obtain ⟨q, hq⟩ : ∃ q, cmpI an bn = q := ⟨_, rfl⟩
  have b1 : Grew w ((w.alloc (.cells #[.int .i64 ta, .int .i64 an, strV sa] 58)).alloc (.cells #[.int .i64 tb, .int .i64 bn, strV sb] 58)) := ((Grew.refl w).alloc _).alloc _
  obtain ⟨x0, x1, x2⟩ := cells3 w (.int .i64 ta) (.int .i64 an) (strV sa) 58
  obtain ⟨y0, y1, y2⟩ := cells3 (w.alloc (.cells #[.int .i64 ta, .int .i64 an, strV sa] 58)) (.int .i64 tb) (.int .i64 bn) (strV sb) 58
  have bb := below_new (w.alloc (.cells #[.int .i64 ta, .int .i64 an, strV sa] 58)) (.cells #[.int .i64 tb, .int .i64 bn, strV sb] 58)
  replace x0 := cell_keep bb x0
  replace x1 := cell_keep bb x1
  replace x2 := cell_keep bb x2
  clear bb
  rw [show (w.alloc (.cells #[.int .i64 ta, .int .i64 an, strV sa] 58)).heap.size = w.heap.size + 1 by simp] at y0 y1 y2
  go_enter Tryd.func93, Tryd.ntmps93
  go_upto_region 1 with fail
  obtain ⟨w0, hw0⟩ : ∃ x : World, x = (w.alloc (.cells #[.int .i64 ta, .int .i64 an, strV sa] 58)).alloc (.cells #[.int .i64 tb, .int .i64 bn, strV sb] 58) := ⟨_, rfl⟩
  rw [← hw0] at x0 x1 x2 y0 y1 y2 b1
  rw [← hw0]
  clear hw0
  by_cases h0 : r = 0
  · subst h0
    have hA : (ta != tb) = false := by simpa using (cmpI_is.eq _ _).1 hr
    by_cases h1 : q = 0
    · subst h1
      have hB : (an != bn) = false := by simpa using (cmpI_is.eq _ _).1 hq
      have HR := Lib.hid (cmpV_three (a := ⟨ta, an, sa, hal⟩) (b := ⟨tb, bn, sb, hbl⟩) hr hq)
      clear hr hq
      go_wp2_with fail
      refine (texts_any sa sb hal _).mono ?_
      rintro e w3 ⟨rfl, hg⟩
      rw [← HR.out]
      go_wp2
      go_ret
      exact ⟨rfl, b1.trans hg⟩
    · have hB : (an != bn) = true := by rw [bne_iff_ne]; intro e; exact h1 (hq.symm.trans ((cmpI_is.eq _ _).2 e))
      have HR := Lib.hid (cmpV_two (a := ⟨ta, an, sa, hal⟩) (b := ⟨tb, bn, sb, hbl⟩) hr hq h1)
      have HQ := Lib.hid hq
      clear hr hq h1
      go_wp2_with fail
      refine (ints_any _ _ _).mono ?_
      rintro e w3 ⟨rfl, rfl⟩
      rw [HQ.out]
      go_wp2
      go_ret
      exact ⟨by rw [HR.out]; rfl, b1⟩
  · have hA : (ta != tb) = true := by rw [bne_iff_ne]; intro e; exact h0 (hr.symm.trans ((cmpI_is.eq _ _).2 e))
    have HR := Lib.hid (cmpV_one (a := ⟨ta, an, sa, hal⟩) (b := ⟨tb, bn, sb, hbl⟩) hr h0)
    have HQ := Lib.hid hr
    clear hr hq h0
    go_wp2_with fail
    refine (ints_any _ _ _).mono ?_
    rintro e w3 ⟨rfl, rfl⟩
    rw [HQ.out]
    go_wp2
    go_ret
    exact ⟨by rw [HR.out]; rfl, b1⟩
set_option maxHeartbeats 1000000 in
theorem rCompareTuple_any (va vb : Value) (a b : Tp) (w : World) (ha : IsVals w va a) (hb : IsVals w vb b) :
    Calls Tryd.prog 42 #[va, vb] w fun e w' => e = .returned (.int .i64 (cmpT a b)) ∧ Grew w w' := by
  obtain ⟨pa, ca, rfl, ha, hma⟩ := ha
  obtain ⟨pb, cb, rfl, hb, hmb⟩ := hb
  go_enter Tryd.func42, Tryd.ntmps42
  go_wp2
  go_loopw [5, 6] (fun i _ wr => ∃ k : Nat, k ≤ a.length ∧ k ≤ b.length ∧ i = .int .i64 k ∧ cmpL cmpV (a.drop k) (b.drop k) = cmpT a b ∧ Grew w wr) (fun i _ _ => a.length - (intOf i).toNat)
  case atStart => exact ⟨0, Nat.zero_le _, Nat.zero_le _, rfl, rfl, Grew.refl _⟩
  case round =>
    obtain ⟨k, hk, hkb, rfl, hc, hg⟩ := hrel
    have HC := Lib.hid hc
    clear hc
    by_cases hlt : k < a.length
    · by_cases hlb : k < b.length
      · obtain ⟨b1, o1, rfl, c0, c1, c2⟩ := vals_at (ha.keep (keeps_below hg.below)) (List.getElem?_eq_getElem hlt)
        obtain ⟨b2, o2, rfl, d0, d1, d2⟩ := vals_at (hb.keep (keeps_below hg.below)) (List.getElem?_eq_getElem hlb)
        obtain ⟨r, hr⟩ : ∃ r, cmpV a[k] b[k] = r := ⟨_, rfl⟩
        have HN1 := Lib.hid (fun h0 : cmpV a[k] b[k] = 0 => cmpL_next hlt hlb HC.out h0)
        have HN2 := Lib.hid (fun h0 : ¬ cmpV a[k] b[k] = 0 => cmpL_other hlt hlb HC.out h0)
        rw [hr] at HN1 HN2
        obtain ⟨x, hx⟩ : ∃ x, x = a[k] := ⟨_, rfl⟩
        obtain ⟨y, hy⟩ : ∃ y, y = b[k] := ⟨_, rfl⟩
        rw [← hx] at c0 c1 c2 hr
        rw [← hy] at d0 d1 d2 hr
        clear hx hy
        have HRR := Lib.hid hr
        clear hr
        replace d0 := After.cell d0
        replace d1 := After.cell d1
        replace d2 := After.cell d2
        replace c0 := After.cell c0
        replace c1 := After.cell c1
        replace c2 := After.cell c2
        go_upto_region 4 with fail
        refine wp_region_after (by kernel_rfl) (by kernel_rfl) ?_
        repeat (quiet_step ((go_at_call 93; exact After.call (rCompare_any x y _))))
        refine wpQuiet_nil ?_
        intro w2 hg2
        rw [HRR.out]
        have g2 := hg.trans hg2
        by_cases h0 : r = 0
        · have HN := Lib.hid (HN1.out h0)
          subst h0
          clear HN1 HN2 c0 c1 c2 d0 d1 d2
          go_wp2
          go_roundw
          case rel => exact ⟨k + 1, by omega, by omega, by go_num, HN.out, g2⟩
          case measure => simp [intOf]; omega
        · have HN := Lib.hid (HN2.out h0)
          have hr0 : (r != 0) = true := by simpa using h0
          clear HN1 HN2 h0 c0 c1 c2 d0 d1 d2
          go_wp2
          go_ret
          exact ⟨by rw [show cmpT a b = r from HN.out]; rfl, g2⟩
      · have hn := Lib.hid (cmpL_over (f := cmpV) hk hkb (by omega) HC.out)
        clear HC
        go_wp2_with fail
        refine (ints_any _ _ _).mono ?_
        rintro e w1 ⟨rfl, rfl⟩
        rw [hn.out]
        go_wp2
        go_ret
        exact ⟨rfl, hg⟩
    · have hn := Lib.hid (cmpL_over (f := cmpV) hk hkb (by omega) HC.out)
      clear HC
      go_wp2_with fail
      refine (ints_any _ _ _).mono ?_
      rintro e w1 ⟨rfl, rfl⟩
      rw [hn.out]
      go_wp2
      go_ret
      exact ⟨rfl, hg⟩
end Go.Proofs.YtdibijhaiaiifaaDoor
/- Rows and relations in memory; slices that a call owns; append. -/
namespace Go.Proofs.YtdibijhaiaiifaaDoor
open Go.RowKit
/-! ### slices that a call owns -/
def Owns {α : Type} (k : Nat) (e : TypeId) (enc : α → List Value) (w : World) (base : Nat) (v : Value) (l : List α) : Prop := w.ownsRow base e k v l.length (l.flatMap enc)
structure Fits (t e : TypeId) (k bytes : Nat) (z : Value) : Prop where
  und : Tryd.prog.underlying t = some (.slice e)
  info : (Tryd.prog.info? e).map (fun i => (i.zero, i.size, i.bytes)) = some (some z, k, bytes)
  zs : z.cells.size = k
  pos : 0 < k
  small : bytes ≤ 1000
structure Encs {α : Type} (k : Nat) (enc : α → List Value) : Prop where
  len : ∀ x, (enc x).length = k
  one : ∀ x, ∀ u ∈ enc x, u.oneCell' = true
section
variable {α : Type} {k bytes : Nat} {t e : TypeId} {z : Value} {enc : α → List Value} {w w' : World} {base : Nat} {v : Value} {l m : List α}
theorem Owns.keep (h : Owns k e enc w base v l) (hb : Below w.heap.size w w') : Owns k e enc w' base v l := own_keep h hb
theorem Owns.is (h : Owns k e enc w base v l) (hE : Encs k enc) (hm : l.length ≤ 9223372036854775807) : IsRows k enc w v l := IsRows.of_owns (base := base) (e := e) h (fun x _ => hE.len x) hm
theorem Owns.nil (w : World) (base : Nat) : Owns k e enc w base (.slice none 0 0) [] := World.ownsRow_nil _ _ _ _
theorem Owns.lit (w : World) : Owns k e enc (w.alloc (.cells #[] e)) w.heap.size (.slice (some ⟨w.heap.size, 0, none⟩) 0 0) [] := World.ownsRow_lit w #[] 0 (Nat.le_refl _) (by decide) (by simp)
theorem Owns.form (h : Owns k e enc w base v l) : ∃ a c, v = .slice a l.length c := own_slice h
theorem Owns.set (h : Owns k e enc w base v l) {p : Addr} (hp : p.block < base) (x : Value) : Owns k e enc (w.setCell p x) base v l := own_set h hp x
theorem Owns.kept {row : Option Nat} (h : Owns k e enc w base v l) (hg : w.grownBy w' row) (hr : v.ownBlock = none ∨ v.ownBlock ≠ row) : Owns k e enc w' base v l := World.ownsRow.kept h hg hr
end
section
variable {α : Type} {k bytes : Nat} {t e : TypeId} {z : Value} {enc : α → List Value} {wr w : World} {ops : Array Oper} {o : Oper} {a : Act} {Q : Exit → Act → World → Prop} {base : Nat} {v x : Value} {l m : List α}
theorem step_cat {K : Act → World → Prop} {E : Prop} (hF : Fits t e k bytes z) (hE : Encs k enc) (hw : Region.wanted o (yielded ops a.tmps) = true) (s y : Operand) (ho : o.op = .call { callee := .builtin .append, args := #[s, y], argTypes := #[t, t] })
    (hs : a.eval s = v) (hy : a.eval y = x) (hO : Owns k e enc wr base v l) (hb : Below wr.heap.size wr w) (hm : IsRows k enc w x m) (hbase : base ≤ wr.heap.size) (hL : l.length ≤ 1000000) (hM : m.length ≤ 1000000)
    (h : ∀ p c w', Owns k e enc w' base (.slice p (l ++ m).length c) (l ++ m) → Below base wr w' → w.grownBy w' v.ownBlock → K (a.put o.dst (.slice p (l ++ m).length c)) w') : if Region.wanted o (yielded ops a.tmps) = true then Oper.wp Tryd.prog o a w K Q else E := by
  obtain ⟨i0, hi, hz0, hz1, hz2⟩ := info_parts' hF.info
  have hown : w.ownsRow base e k v l.length (l.flatMap enc) := own_keep hO hb
  have h1 : (l.length + m.length) * bytes ≤ 140737488355328 := Nat.le_trans (Nat.mul_le_mul (show l.length + m.length ≤ 2000000 by omega) hF.small) (by omega)
  refine step_append_rows hw enc s y t ho base e i0 _ k bytes hF.und hi hz0 hz1 hz2 hF.zs hF.pos v l.length _ hs hown x m hy hm (fun y _ => hE.len y) (fun y _ => hE.one y) (by unfold maxLen; omega) h1 (by have := hb.size; omega) ?_
  intro v' w' hown' hg _
  have h2 : Owns k e enc w' base v' (l ++ m) := by unfold Owns; rw [List.length_append, List.flatMap_append]; exact hown'
  obtain ⟨p, c, rfl⟩ := h2.form
  exact h p c w' h2 (below_own hO hb hg hbase) hg
theorem wpList_cat {rest : List Oper} (hF : Fits t e k bytes z) (hE : Encs k enc) (hgd : o.guard = none) (s y : Operand) (ho : o.op = .call { callee := .builtin .append, args := #[s, y], argTypes := #[t, t] })
    (hs : a.eval s = v) (hy : a.eval y = x) (hO : Owns k e enc wr base v l) (hb : Below wr.heap.size wr w) (hm : IsRows k enc w x m) (hbase : base ≤ wr.heap.size) (hL : l.length ≤ 1000000) (hM : m.length ≤ 1000000)
    (h : ∀ p c w', Owns k e enc w' base (.slice p (l ++ m).length c) (l ++ m) → Below base wr w' → w.grownBy w' v.ownBlock → wpList Tryd.prog ops Q rest (a.put o.dst (.slice p (l ++ m).length c)) w') : wpList Tryd.prog ops Q (o :: rest) a w := by
  obtain ⟨i0, hi, hz0, hz1, hz2⟩ := info_parts' hF.info
  have hown : w.ownsRow base e k v l.length (l.flatMap enc) := own_keep hO hb
  have h1 : (l.length + m.length) * bytes ≤ 140737488355328 := Nat.le_trans (Nat.mul_le_mul (show l.length + m.length ≤ 2000000 by omega) hF.small) (by omega)
  refine wpList_append_rows hgd enc s y t ho base e i0 _ k bytes hF.und hi hz0 hz1 hz2 hF.zs hF.pos v l.length _ hs hown x m hy hm (fun y _ => hE.len y) (fun y _ => hE.one y) (by unfold maxLen; omega) h1 (by have := hb.size; omega) ?_
  intro v' w' hown' hg _
  have h2 : Owns k e enc w' base v' (l ++ m) := by unfold Owns; rw [List.length_append, List.flatMap_append]; exact hown'
  obtain ⟨p, c, rfl⟩ := h2.form
  exact h p c w' h2 (below_own hO hb hg hbase) hg
end
/-- What a block of cells reads as. -/
theorem IsRows.block {α : Type} {k g : Nat} {e : TypeId} {enc : α → List Value} {w : World} {l : List α} {fr : Nat × Nat} (hE : Encs k enc) (h : w.heap[g]? = some (.cells (l.flatMap enc).toArray e fr)) (hl : l.length ≤ 9223372036854775807) : IsRows k enc w (.slice (some ⟨g, 0, none⟩) l.length l.length) l := by
  refine ⟨_, _, rfl, .inr ⟨_, _, rfl, fun i x hi j u hj => ?_⟩, hl, Nat.le_refl _, hl⟩
  have := flats_get l (fun x _ => hE.len x) i x hi j u hj
  unfold World.cell?
  rw [h]
  simpa using this
theorem IsRows.lit {α : Type} {k : Nat} {e : TypeId} {enc : α → List Value} (w : World) (l : List α) (hE : Encs k enc) (hl : l.length ≤ 9223372036854775807) : IsRows k enc (w.alloc (.cells (l.flatMap enc).toArray e)) (.slice (some ⟨w.heap.size, 0, none⟩) l.length l.length) l :=
  IsRows.block hE (World.alloc_heap_new w _) hl
/-! ### rows -/
/-- A row: where its slices lie, and what they read as. -/
structure RR where
  pa : Option Addr
  ca : Nat
  t : Tp
  pw : Option Addr
  cw : Nat
  s : List Sp
abbrev RR.av (r : RR) : Value := .slice r.pa r.t.length r.ca
abbrev RR.wv (r : RR) : Value := .slice r.pw r.s.length r.cw
def encR (r : RR) : List Value := [r.av, r.wv]
def rowV (r : RR) : Value := .agg #[r.av, r.wv]
def RR.rw (r : RR) : Rw := (r.t, r.s)
def RowOk (w : World) (r : RR) : Prop := IsVals w r.av r.t ∧ IsSpans w r.wv r.s
theorem RowOk.keep {w w' : World} {r : RR} (h : RowOk w r) (hb : Below w.heap.size w w') : RowOk w' r := ⟨h.1.keep hb, h.2.keep hb⟩
def noRow : RR := ⟨none, 0, [], none, 0, []⟩
theorem noRow_ok (w : World) : RowOk w noRow := ⟨IsVals.nil w, IsSpans.nil w⟩
def rows (xs : List RR) : List Rw := xs.map RR.rw
theorem rows_append (a b : List RR) : rows (a ++ b) = rows a ++ rows b := by simp [rows]
theorem rows_length (a : List RR) : (rows a).length = a.length := by simp [rows]
/-- The value v is a slice that reads as the rows xs. -/
def IsRel (w : World) (v : Value) (xs : List RR) : Prop := IsRows 2 encR w v xs ∧ ∀ x ∈ xs, RowOk w x
theorem IsRel.keep {w w' : World} {v : Value} {xs : List RR} (h : IsRel w v xs) (hb : Below w.heap.size w w') : IsRel w' v xs := ⟨h.1.keep (keeps_below hb), fun x hx => (h.2 x hx).keep hb⟩
theorem IsRel.nil (w : World) : IsRel w (.slice none 0 0) [] := ⟨⟨none, 0, rfl, .inl rfl, by simp, by simp, by simp⟩, by simp⟩
theorem IsRel.shape {w : World} {v : Value} {xs : List RR} (h : IsRel w v xs) : ∃ a c, v = .slice a xs.length c ∧ xs.length ≤ 9223372036854775807 ∧ xs.length ≤ c ∧ c ≤ 9223372036854775807 := by
  obtain ⟨⟨a, c, e, _, hm⟩, _⟩ := h
  exact ⟨a, c, e, hm⟩
theorem IsRel.at_ {w : World} {a : Option Addr} {n c : Nat} {xs : List RR} (h : IsRel w (.slice a n c) xs) {i : Nat} {x : RR} (hi : xs[i]? = some x) :
    ∃ b off, a = some ⟨b, off, none⟩ ∧ w.cell? ⟨b, off + i * 2, none⟩ = some x.av ∧ w.cell? ⟨b, off + i * 2 + 1, none⟩ = some x.wv ∧ RowOk w x := by
  obtain ⟨⟨a', c', e, hr, hm⟩, h2⟩ := h
  injection e with e1 e2 e3
  subst e1
  obtain ⟨b, off, ha, hc⟩ := hr.at_ hi
  have hc := hc i x hi
  exact ⟨b, off, ha, hc 0 _ rfl, hc 1 _ rfl, h2 x (List.mem_of_getElem? hi)⟩
theorem encsR : Encs 2 encR := ⟨fun _ => rfl, fun x u hu => by unfold encR at hu; simp at hu; rcases hu with rfl | rfl <;> rfl⟩
theorem encsV : Encs 3 encVl := ⟨fun _ => rfl, fun x u hu => by unfold encVl at hu; simp at hu; rcases hu with rfl | rfl | rfl <;> rfl⟩
def encSp (s : Sp) : List Value := [.int .i64 s.1, .int .i64 s.2]
theorem encsS : Encs 2 encSp := ⟨fun _ => rfl, fun x u hu => by unfold encSp at hu; simp at hu; rcases hu with rfl | rfl <;> rfl⟩
theorem fitsR24 : Fits 24 44 2 48 (.agg #[.slice none 0 0, .slice none 0 0]) := ⟨Tryd.underlying24, by kernel_rfl, by kernel_rfl, by decide, by decide⟩
theorem fitsR23 : Fits 23 44 2 48 (.agg #[.slice none 0 0, .slice none 0 0]) := ⟨Tryd.underlying23, by kernel_rfl, by kernel_rfl, by decide, by decide⟩
theorem fitsV : Fits 25 58 3 32 (.agg #[.int .i64 0, .int .i64 0, .string ⟨#[]⟩]) := ⟨Tryd.underlying25, by kernel_rfl, by kernel_rfl, by decide, by decide⟩
theorem fitsS : Fits 26 86 2 16 (.agg #[.int .i64 0, .int .i64 0]) := ⟨Tryd.underlying26, by kernel_rfl, by kernel_rfl, by decide, by decide⟩
/-! ### spans as rows -/
theorem IsSpans.of_rows {w : World} {v : Value} {l : List Sp} (h : IsRows 2 encSp w v l) : IsSpans w v l := by
  obtain ⟨a, c, e, hr, hm⟩ := h
  refine ⟨a, c, e, ?_, hm⟩
  rcases hr with h | ⟨b, off, ha, hc⟩
  · exact .inl h
  · refine .inr ⟨b, off, ha, fun i hi => ?_⟩
    have hx : l[i]? = some (l.getD i (0, 0)) := by simp [hi]
    have h0 := hc i _ hx 0 _ rfl
    have h1 := hc i _ hx 1 _ rfl
    exact ⟨h0, h1⟩
theorem IsSpans.rows {w : World} {v : Value} {l : List Sp} (h : IsSpans w v l) : IsRows 2 encSp w v l := by
  obtain ⟨a, c, e, hr, hm⟩ := h
  refine ⟨a, c, e, ?_, hm⟩
  rcases hr with h | ⟨b, off, ha, hc⟩
  · exact .inl h
  · refine .inr ⟨b, off, ha, fun i x hi j u hj => ?_⟩
    have hlt := (List.getElem?_eq_some_iff.1 hi).1
    obtain ⟨h0, h1⟩ := hc i hlt
    have hx : l.getD i (0, 0) = x := by rw [List.getD_eq_getElem?_getD, hi]; rfl
    rw [hx] at h0 h1
    rcases j with _ | _ | j
    · obtain rfl : Value.int .i64 x.1 = u := by simpa [encSp] using hj
      exact h0
    · obtain rfl : Value.int .i64 x.2 = u := by simpa [encSp] using hj
      exact h1
    · simp [encSp] at hj
end Go.Proofs.YtdibijhaiaiifaaDoor
/- The walks of byArgs and of the library's Clone. -/
namespace Go.Proofs.YtdibijhaiaiifaaDoor
open Go.RowKit
theorem cells2 (w : World) (x y : Value) (t : TypeId) : (w.alloc (.cells #[x, y] t)).cell? ⟨w.heap.size, 0, none⟩ = some x ∧ (w.alloc (.cells #[x, y] t)).cell? ⟨w.heap.size, 1, none⟩ = some y := by
  have e : (w.alloc (.cells #[x, y] t)).heap[w.heap.size]? = some (.cells #[x, y] t) := World.alloc_heap_new w _
  exact ⟨cell_at e rfl, cell_at e rfl⟩
theorem byArgs_any (x y : RR) (w : World) (hx : IsVals w x.av x.t) (hy : IsVals w y.av y.t) : Calls Tryd.prog 73 #[rowV x, rowV y] w fun e w' => e = .returned (.int .i64 (cmpT x.t y.t)) ∧ Grew w w' := by
  unfold rowV
  have g := ((Grew.refl w).alloc (.cells #[x.av, x.wv] 44)).alloc (.cells #[y.av, y.wv] 44)
  obtain ⟨x0, x1⟩ := cells2 w x.av x.wv 44
  obtain ⟨y0, y1⟩ := cells2 (w.alloc (.cells #[x.av, x.wv] 44)) y.av y.wv 44
  have bb := below_new (w.alloc (.cells #[x.av, x.wv] 44)) (.cells #[y.av, y.wv] 44)
  replace x0 := cell_keep bb x0
  replace x1 := cell_keep bb x1
  clear bb
  rw [show (w.alloc (.cells #[x.av, x.wv] 44)).heap.size = w.heap.size + 1 by simp] at y0 y1
  go_enter Tryd.func73, Tryd.ntmps73
  go_upto_region 1 with fail
  obtain ⟨w0, hw0⟩ : ∃ u : World, u = (w.alloc (.cells #[x.av, x.wv] 44)).alloc (.cells #[y.av, y.wv] 44) := ⟨_, rfl⟩
  rw [← hw0] at x0 x1 y0 y1 g
  rw [← hw0]
  clear hw0
  go_wp2_with fail
  refine (CompareTuple_any _ _ x.t y.t _ (hx.keep g.below) (hy.keep g.below)).mono ?_
  rintro e w3 ⟨rfl, hg⟩
  go_wp2
  go_ret
  exact ⟨rfl, g.trans hg⟩
set_option maxRecDepth 100000 in
theorem CloneR_any (v : Value) (l : List RR) (w : World) (h : IsRows 2 encR w v l) (hl : l.length ≤ 1000000) :
    Calls Tryd.prog 127 #[v] w fun e w' => ∃ u, e = .returned u ∧ Owns 2 44 encR w' w.heap.size u l ∧ Below w.heap.size w w' := by
  have h0 : Owns 2 44 encR (w.alloc (.cells #[] 44)) w.heap.size (.slice (some ⟨w.heap.size, 0, none⟩) 0 0) [] := Owns.lit w
  have b0 := below_new w (.cells #[] 44)
  have hx := h.keep (keeps_below b0)
  have heq := fun (w : World) (a : Option Addr) (l c : Nat) => Lib.run_eql_slice_nil (P := Tryd.prog) w 24 44 a l c 0 0 Tryd.underlying24
  obtain ⟨a, c, rfl, hr, hm⟩ := h
  cases a with
  | none =>
    have hn : l = [] := by
      rcases hr with h | ⟨b, off, ha, _⟩
      · exact h
      · cases ha
    subst hn
    go_enter Tryd.func127, Tryd.ntmps127
    go_wp2
    go_ret
    exact ⟨_, rfl, Owns.nil _ _, Below.refl _ _⟩
  | some ad =>
    go_enter Tryd.func127, Tryd.ntmps127
    go_wp2_with (at_builtin; refine wpList_cat fitsR24 encsR rfl _ _ rfl rfl rfl h0 (Below.refl _ _) hx (by simp) (by simp) hl ?_; intro p1 c1 w1 hO hB hG)
    go_ret
    exact ⟨_, rfl, hO, b0.trans hB⟩
set_option maxRecDepth 100000 in
theorem CloneV_any (v : Value) (l : List Vl) (w : World) (h : IsRows 3 encVl w v l) (hl : l.length ≤ 1000000) :
    Calls Tryd.prog 129 #[v] w fun e w' => ∃ u, e = .returned u ∧ Owns 3 58 encVl w' w.heap.size u l ∧ Below w.heap.size w w' := by
  have h0 : Owns 3 58 encVl (w.alloc (.cells #[] 58)) w.heap.size (.slice (some ⟨w.heap.size, 0, none⟩) 0 0) [] := Owns.lit w
  have b0 := below_new w (.cells #[] 58)
  have hx := h.keep (keeps_below b0)
  have heq := fun (w : World) (a : Option Addr) (l c : Nat) => Lib.run_eql_slice_nil (P := Tryd.prog) w 25 58 a l c 0 0 Tryd.underlying25
  obtain ⟨a, c, rfl, hr, hm⟩ := h
  cases a with
  | none =>
    have hn : l = [] := by
      rcases hr with h | ⟨b, off, ha, _⟩
      · exact h
      · cases ha
    subst hn
    go_enter Tryd.func129, Tryd.ntmps129
    go_wp2
    go_ret
    exact ⟨_, rfl, Owns.nil _ _, Below.refl _ _⟩
  | some ad =>
    go_enter Tryd.func129, Tryd.ntmps129
    go_wp2_with (at_builtin; refine wpList_cat fitsV encsV rfl _ _ rfl rfl rfl h0 (Below.refl _ _) hx (by simp) (by simp) hl ?_; intro p1 c1 w1 hO hB hG)
    go_ret
    exact ⟨_, rfl, hO, b0.trans hB⟩
set_option maxRecDepth 100000 in
theorem CloneW_any (v : Value) (l : List RR) (w : World) (h : IsRows 2 encR w v l) (hl : l.length ≤ 1000000) :
    Calls Tryd.prog 136 #[v] w fun e w' => ∃ u, e = .returned u ∧ Owns 2 44 encR w' w.heap.size u l ∧ Below w.heap.size w w' := by
  have h0 : Owns 2 44 encR (w.alloc (.cells #[] 44)) w.heap.size (.slice (some ⟨w.heap.size, 0, none⟩) 0 0) [] := Owns.lit w
  have b0 := below_new w (.cells #[] 44)
  have hx := h.keep (keeps_below b0)
  have heq := fun (w : World) (a : Option Addr) (l c : Nat) => Lib.run_eql_slice_nil (P := Tryd.prog) w 23 44 a l c 0 0 Tryd.underlying23
  obtain ⟨a, c, rfl, hr, hm⟩ := h
  cases a with
  | none =>
    have hn : l = [] := by
      rcases hr with h | ⟨b, off, ha, _⟩
      · exact h
      · cases ha
    subst hn
    go_enter Tryd.func136, Tryd.ntmps136
    go_wp2
    go_ret
    exact ⟨_, rfl, Owns.nil _ _, Below.refl _ _⟩
  | some ad =>
    go_enter Tryd.func136, Tryd.ntmps136
    go_wp2_with (at_builtin; refine wpList_cat fitsR23 encsR rfl _ _ rfl rfl rfl h0 (Below.refl _ _) hx (by simp) (by simp) hl ?_; intro p1 c1 w1 hO hB hG)
    go_ret
    exact ⟨_, rfl, hO, b0.trans hB⟩
end Go.Proofs.YtdibijhaiaiifaaDoor
/- The sort's state: a block of rows that the call owns. -/
namespace Go.Proofs.YtdibijhaiaiifaaDoor
open Go.RowKit
open Go.Sort (swp)
instance : Inhabited RR := ⟨noRow⟩
/-- The block G, laid behind wb, holds the rows d. -/
structure St (wb : World) (G : Nat) (d : Array RR) (W : World) : Prop where
  below : Below wb.heap.size wb W
  ge : wb.heap.size ≤ G
  blk : ∃ cs : Array Value, W.heap[G]? = some (.cells cs 44 (0, 0)) ∧ 2 * d.size ≤ cs.size ∧ ∀ i, i < d.size → cs[i * 2]? = some (d[i]!).av ∧ cs[i * 2 + 1]? = some (d[i]!).wv
  ok : ∀ i, i < d.size → RowOk wb d[i]!
section
variable {wb W W' : World} {G : Nat} {d : Array RR}
theorem St.lt (h : St wb G d W) : G < W.heap.size := by obtain ⟨cs, h, _⟩ := h.blk; exact block_lt h
theorem St.keep (h : St wb G d W) (hb : Below W.heap.size W W') : St wb G d W' := by
  refine ⟨h.below.trans (hb.mono h.below.size), h.ge, ?_, h.ok⟩
  obtain ⟨cs, h1, h2⟩ := h.blk
  exact ⟨cs, block_keep h1 hb, h2⟩
theorem St.grew (h : St wb G d W) (g : Grew W W') : St wb G d W' := h.keep g.below
theorem St.cells (h : St wb G d W) {i : Nat} (hi : i < d.size) : W.cell? ⟨G, i * 2, none⟩ = some (d[i]!).av ∧ W.cell? ⟨G, i * 2 + 1, none⟩ = some (d[i]!).wv := by
  obtain ⟨cs, h1, _, h2⟩ := h.blk
  obtain ⟨c0, c1⟩ := h2 i hi
  exact ⟨cell_at h1 c0, cell_at h1 c1⟩
theorem St.free (h : St wb G d W) (j : Nat) : W.frozen? ⟨G, j, none⟩ = false := by
  obtain ⟨cs, h1, _⟩ := h.blk
  exact free_at h1
theorem St.row (h : St wb G d W) {i : Nat} (hi : i < d.size) : RowOk W d[i]! := (h.ok i hi).keep h.below
theorem swp_get (d : Array RR) (i j k : Nat) (hi : i < d.size) (hj : j < d.size) : (swp d i j)[k]! = if k = j then d[i]! else if k = i then d[j]! else d[k]! := by
  by_cases h1 : k = j
  · subst h1; rw [if_pos rfl, Go.Sort.swp_right d i k hj]
  · rw [if_neg h1]
    by_cases h2 : k = i
    · subst h2; rw [if_pos rfl, Go.Sort.swp_left d k j hi h1]
    · rw [if_neg h2, Go.Sort.swp_other d i j k h2 h1]
theorem St.swap (h : St wb G d W) {i j : Nat} (hi : i < d.size) (hj : j < d.size) :
    St wb G (swp d i j) ((((W.setCell ⟨G, i * 2, none⟩ (d[j]!).av).setCell ⟨G, i * 2 + 1, none⟩ (d[j]!).wv).setCell ⟨G, j * 2, none⟩ (d[i]!).av).setCell ⟨G, j * 2 + 1, none⟩ (d[i]!).wv) := by
  obtain ⟨cs, h1, hs, h2⟩ := h.blk
  have a1 := heap_setCell_same W G (i * 2) cs 44 (d[j]!).av h1
  have a2 := heap_setCell_same _ G (i * 2 + 1) _ 44 (d[j]!).wv a1
  have a3 := heap_setCell_same _ G (j * 2) _ 44 (d[i]!).av a2
  have a4 := heap_setCell_same _ G (j * 2 + 1) _ 44 (d[i]!).wv a3
  refine ⟨(((h.below.setCell h.ge _).setCell h.ge _).setCell h.ge _).setCell h.ge _, h.ge, ⟨_, a4, by simpa [Go.Sort.size_swp] using hs, fun k hk => ?_⟩, fun k hk => ?_⟩
  · rw [Go.Sort.size_swp] at hk
    rw [swp_get d i j k hi hj]
    obtain ⟨c0, c1⟩ := h2 k hk
    have s0 : k * 2 < cs.size := by omega
    have s1 : k * 2 + 1 < cs.size := by omega
    simp only [Array.getElem?_setIfInBounds, Array.size_setIfInBounds]
    by_cases e1 : k = j
    · subst e1
      have q : (if k = k then d[i]! else if k = i then d[k]! else d[k]!) = d[i]! := if_pos rfl
      rw [q]
      constructor
      · rw [if_neg (by omega), if_pos rfl, if_pos s0]
      · rw [if_pos rfl, if_pos s1]
    · rw [if_neg e1]
      by_cases e2 : k = i
      · subst e2
        have q : (if k = k then d[j]! else d[k]!) = d[j]! := if_pos rfl
        rw [q]
        constructor
        · rw [if_neg (by omega), if_neg (by omega), if_neg (by omega), if_pos rfl, if_pos s0]
        · rw [if_neg (by omega), if_neg (by omega), if_pos rfl, if_pos s1]
      · rw [if_neg e2]
        constructor
        · rw [if_neg (by omega), if_neg (by omega), if_neg (by omega), if_neg (by omega)]; exact c0
        · rw [if_neg (by omega), if_neg (by omega), if_neg (by omega), if_neg (by omega)]; exact c1
  · rw [Go.Sort.size_swp] at hk
    rw [swp_get d i j k hi hj]
    split
    · exact h.ok i hi
    · split
      · exact h.ok j hj
      · exact h.ok k hk
end
def ltR (x y : RR) : Bool := decide (cmpT x.t y.t < 0)
theorem swoR : Go.Sort.SWO ltR where
  irrefl := fun x => by unfold ltR; rw [cmpT_is.refl]; decide
  trans := fun x y z h k => by
    unfold ltR at *
    rw [decide_eq_true_iff] at *
    exact cmpT_is.trans _ _ _ h k
  ntrans := fun x y z h k => by
    unfold ltR at *
    rw [decide_eq_false_iff_not] at *
    intro hxz
    rcases cmpT_is.total y.t x.t with h1 | h1
    · have := cmpT_is.le_lt h1 hxz
      exact k this
    · exact h h1
end Go.Proofs.YtdibijhaiaiifaaDoor
/- The walk of the library's insertion sort and of swapRange. -/
namespace Go.Proofs.YtdibijhaiaiifaaDoor
open Go.RowKit
open Go.Sort
theorem byArgs_after {W : World} {x y : RR} (hx : RowOk W x) (hy : RowOk W y) (p : After W) : Calls Tryd.prog 73 #[rowV x, rowV y] p.w' fun e w'' => e = .returned (.int .i64 (cmpT x.t y.t)) ∧ ∃ q : After W, w'' = q.w' :=
  After.call (byArgs_any x y p.w' (hx.keep p.ok.below).1 (hy.keep p.ok.below).1)
set_option maxHeartbeats 4000000 in
set_option maxRecDepth 1000000 in
theorem insertion_any (wb : World) (G c a b : Nat) (d : Array RR) (w : World) (S : St wb G d w) (hab : a ≤ b) (hb : b ≤ d.size) (hsz : d.size ≤ 1000000) :
    Calls Tryd.prog 152 #[.slice (some ⟨G, 0, none⟩) d.size c, .int .i64 a, .int .i64 b, .func (.func 73) #[] #[]] w fun e w' => e = .returned (.tuple #[]) ∧ St wb G (Go.Sort.insertionSort ltR d a b) w' := by
  go_enter Tryd.func152, Tryd.ntmps152
  go_wp2
  go_loopg [8] (b - a) (fun g1 vi wr => ∃ (i : Nat) (dk : Array RR), vi = .int .i64 i ∧ a < i ∧ i ≤ b + 1 ∧ b + 1 - i ≤ g1 + 1 ∧ dk.size = d.size ∧ St wb G dk wr ∧ Hid (insOuter ltR a b i dk = insOuter ltR a b (a + 1) d))
  case atStart => exact ⟨a + 1, d, by go_num, by omega, by omega, by omega, rfl, S, rfl⟩
  case round =>
    clear S
    obtain ⟨i, dk, rfl, hai, hib, hg1, hsk, S, HO⟩ := hrel
    by_cases hlt : i < b
    · have hltz : (i : Int) < (b : Int) := by omega
      go_wp2
      go_loopg [9] i (fun g2 vj wr2 => ∃ (j : Nat) (dj : Array RR), vj = .int .i64 j ∧ a ≤ j ∧ j ≤ i ∧ j ≤ g2 ∧ dj.size = d.size ∧ St wb G dj wr2 ∧ Hid (insInner ltR a j dj = insInner ltR a i dk))
      case atStart => exact ⟨i, dk, rfl, by omega, Nat.le_refl _, Nat.le_refl _, hsk, S, rfl⟩
      case round =>
        clear S
        obtain ⟨j, dj, rfl, haj, hji, hg2, hsj, S, HI⟩ := hrel
        have OUT := Lib.hid (fun hs : j ≤ a ∨ ltR dj[j]! dj[j - 1]! = false => show insOuter ltR a b (i + 1) dj = insOuter ltR a b (a + 1) d from by
          rw [← HO.out, insOuter_go _ _ _ _ _ hlt, ← HI.out, insInner_stop _ _ _ _ hs])
        by_cases hja : a < j
        · obtain ⟨jp, hjp⟩ : ∃ jp, j = jp + 1 := ⟨j - 1, by omega⟩
          have hjd : j < dj.size := by omega
          have hpd : jp < dj.size := by omega
          obtain ⟨a0, a1⟩ := S.cells hjd
          obtain ⟨b0, b1⟩ := S.cells hpd
          have rx := S.row hjd
          have ry := S.row hpd
          have S2 := Lib.hid (fun W (hS : St wb G dj W) => hS.swap (i := j) (j := jp) hjd hpd)
          have INN := Lib.hid (fun h : ltR dj[j]! dj[jp]! = true => insInner_go ltR a j dj hja (by rw [hjp] at h ⊢; simpa using h))
          rw [show j - 1 = jp by omega] at OUT INN
          generalize hxj : dj[j]! = x at *
          generalize hxp : dj[jp]! = y at *
          have hja' : (a : Int) < (j : Int) := by omega
          have jz : (j : Int) < (d.size : Int) := by omega
          have jz1 : (j : Int) - 1 < (d.size : Int) := by omega
          have jz2 : (1 : Int) ≤ (j : Int) := by omega
          have jz3 : ((j : Int) - 1).toNat = jp := by omega
          have jw : IntKind.i64.wrap ((j : Int) - 1) = (j : Int) - 1 := by rw [IntKind.wrap_i64]; omega
          replace a0 := After.cell a0
          replace a1 := After.cell a1
          replace b0 := After.cell b0
          replace b1 := After.cell b1
          obtain ⟨r, hr⟩ : ∃ r, cmpT x.t y.t = r := ⟨_, rfl⟩
          have HJP := Lib.hid hjp
          clear hjp
          go_upto_region 4 with fail
          refine wp_region_after (by kernel_rfl) (by kernel_rfl) ?_
          repeat (quiet_step ((go_at_call 73; exact byArgs_after rx ry _)))
          refine wpQuiet_nil ?_
          intro w2 hg2
          replace S := S.grew hg2
          clear a0 a1 b0 b1
          by_cases hlv : r < 0
          · have HN := Lib.hid (INN.out (by unfold ltR; rw [hr]; exact decide_eq_true hlv))
            obtain ⟨a0, a1⟩ := S.cells hjd
            obtain ⟨b0, b1⟩ := S.cells hpd
            rw [hxj] at a0 a1
            rw [hxp] at b0 b1
            have f0 := S.free (j * 2)
            have f1 := S.free (j * 2 + 1)
            have f2 := S.free (jp * 2)
            have f3 := S.free (jp * 2 + 1)
            have S3 := Lib.hid (S2.out _ S)
            go_upto_region 6 with fail
            go_region
            replace S3 := S3.out.grew (Grew.refl _).drew
            clear a0 a1 b0 b1 f0 f1 f2 f3 S
            generalize World.drew _ = w3 at S3 ⊢
            go_wp2
            go_roundg jp
            case measure => have := HJP.out; omega
            case rel => exact ⟨jp, swp dj j jp, by go_num, by have := HJP.out; omega, by have := HJP.out; omega, Nat.le_refl _, by rw [size_swp]; exact hsj, S3, Lib.hid (by rw [← HI.out, HN.out])⟩
          · have HN := Lib.hid (OUT.out (.inr (by unfold ltR; rw [hr]; exact decide_eq_false hlv)))
            go_wp2
            go_roundg (b - (i + 1))
            case measure => omega
            case rel => exact ⟨i + 1, dj, by go_num, by omega, by omega, by omega, hsj, S, HN⟩
        · have HN := Lib.hid (OUT.out (.inl (by omega)))
          have hjz : decide ((j : Int) > (a : Int)) = false := decide_eq_false (by omega)
          have hjz' : ¬ (a : Int) < (j : Int) := by omega
          go_upto_region 4 with fail
          go_region
          replace S := S.grew (Grew.refl _).drew
          go_wp2
          go_roundg (b - (i + 1))
          case measure => omega
          case rel => exact ⟨i + 1, dj, by go_num, by omega, by omega, by omega, hsj, S, HN⟩
    · have hltz : ¬ (i : Int) < (b : Int) := by omega
      go_wp2
      go_end0
      exact ⟨rfl, by unfold Go.Sort.insertionSort; rw [← HO.out, insOuter_stop _ _ _ _ _ hlt]; exact S⟩
end Go.Proofs.YtdibijhaiaiifaaDoor
/- The walk of the library's swapRange. -/
namespace Go.Proofs.YtdibijhaiaiifaaDoor
open Go.RowKit
open Go.Sort
/-- The first k rounds of swapRange. -/
def swapN (a b : Nat) : Nat → Array RR → Array RR
  | 0, d => d
  | k + 1, d => swp (swapN a b k d) (a + k) (b + k)
theorem size_swapN (a b k : Nat) (d : Array RR) : (swapN a b k d).size = d.size := by
  induction k with
  | zero => rfl
  | succ k ih => rw [swapN, size_swp, ih]
set_option maxHeartbeats 4000000 in
set_option maxRecDepth 1000000 in
theorem swapRange_any (wb : World) (G c a b n : Nat) (d : Array RR) (w : World) (S : St wb G d w) (hne : a ≠ b) (ha : a + n ≤ d.size) (hb : b + n ≤ d.size) (hsz : d.size ≤ 1000000) :
    Calls Tryd.prog 157 #[.slice (some ⟨G, 0, none⟩) d.size c, .int .i64 a, .int .i64 b, .int .i64 n, .func (.func 73) #[] #[]] w fun e w' => e = .returned (.tuple #[]) ∧ St wb G (swapN a b n d) w' := by
  go_enter Tryd.func157, Tryd.ntmps157
  go_wp2
  go_loopg [10] n (fun g1 vi wr => ∃ k : Nat, vi = .int .i64 k ∧ k ≤ n ∧ n - k ≤ g1 ∧ St wb G (swapN a b k d) wr)
  case atStart => exact ⟨0, rfl, by omega, by omega, S⟩
  case round =>
    clear S
    obtain ⟨k, rfl, hk, hg, S⟩ := hrel
    by_cases hlt : k < n
    · have hz := size_swapN a b k d
      have hI : a + k < (swapN a b k d).size := by omega
      have hJ : b + k < (swapN a b k d).size := by omega
      have S3 := S.swap hI hJ
      obtain ⟨a0, a1⟩ := S.cells hI
      obtain ⟨b0, b1⟩ := S.cells hJ
      have f0 := S.free ((a + k) * 2)
      have f1 := S.free ((a + k) * 2 + 1)
      have f2 := S.free ((b + k) * 2)
      have f3 := S.free ((b + k) * 2 + 1)
      have NX : swapN a b (k + 1) d = swp (swapN a b k d) (a + k) (b + k) := rfl
      rw [← NX] at S3
      have n1 : ¬ (a + k) * 2 = (b + k) * 2 := by omega
      have n2 : ¬ (b + k) * 2 = (a + k) * 2 := by omega
      have n3 : ¬ (b + k) * 2 = (a + k) * 2 + 1 := by omega
      have n4 : ¬ (a + k) * 2 + 1 = (b + k) * 2 := by omega
      have n5 : ¬ (b + k) * 2 + 1 = (a + k) * 2 := by omega
      have n6 : ¬ (a + k) * 2 = (b + k) * 2 + 1 := by omega
      have n7 : ¬ a + k = b + k := by omega
      have n8 : ¬ b + k = a + k := by omega
      have n9 : ¬ a = b := hne
      have n10 : ¬ b = a := fun e => hne e.symm
      have i1 : (a : Int) + k < (d.size : Int) := by omega
      have j1 : (b : Int) + k < (d.size : Int) := by omega
      have i2 : 0 ≤ (a : Int) + k := by omega
      have j2 : 0 ≤ (b : Int) + k := by omega
      have i3 : ((a : Int) + k).toNat = a + k := by omega
      have j3 : ((b : Int) + k).toNat = b + k := by omega
      generalize (swapN a b k d)[a + k]! = x at *
      generalize (swapN a b k d)[b + k]! = y at *
      have hkn : (k : Int) < (n : Int) := by omega
      clear NX hz
      go_upto_region 3 with fail
      go_region
      replace S3 := S3.grew (Grew.refl _).drew
      clear a0 a1 b0 b1 f0 f1 f2 f3 S
      generalize World.drew _ = w3 at S3 ⊢
      go_wp2
      go_roundg (n - (k + 1))
      case measure => omega
      case rel => exact ⟨k + 1, by go_num, by omega, by omega, S3⟩
    · have hkn : ¬ (k : Int) < (n : Int) := by omega
      have e : k = n := by omega
      subst e
      go_wp2
      go_end0
      exact ⟨rfl, S⟩
end Go.Proofs.YtdibijhaiaiifaaDoor
/- The walk of the library's rotate. -/
namespace Go.Proofs.YtdibijhaiaiifaaDoor
open Go.RowKit
open Go.Sort
/-- What an exchange of two parts that lie apart does. -/
theorem swapN_get {a b : Nat} {d : Array RR} : ∀ n, (a + n ≤ b ∨ b + n ≤ a) → a + n ≤ d.size → b + n ≤ d.size → ∀ x, (swapN a b n d)[x]! = if a ≤ x ∧ x < a + n then d[b + (x - a)]! else if b ≤ x ∧ x < b + n then d[a + (x - b)]! else d[x]! := by
  intro n
  induction n with
  | zero => intro _ _ _ x; rw [if_neg (by omega), if_neg (by omega)]; rfl
  | succ n ih =>
    intro h ha hb x
    have ih := ih (by omega) (by omega) (by omega)
    rw [swapN, swp_get _ _ _ _ (by rw [size_swapN]; omega) (by rw [size_swapN]; omega), ih (a + n), ih (b + n), ih x]
    rw [if_neg (show ¬ (a ≤ a + n ∧ a + n < a + n) by omega), if_neg (show ¬ (b ≤ a + n ∧ a + n < b + n) by omega), if_neg (show ¬ (a ≤ b + n ∧ b + n < a + n) by omega), if_neg (show ¬ (b ≤ b + n ∧ b + n < b + n) by omega)]
    by_cases h1 : x = b + n
    · subst h1
      rw [if_pos rfl, if_neg (by omega), if_pos (by omega), show a + (b + n - b) = a + n by omega]
    · rw [if_neg h1]
      by_cases h2 : x = a + n
      · subst h2
        rw [if_pos rfl, if_pos (by omega), show b + (a + n - a) = b + n by omega]
      · rw [if_neg h2]
        by_cases h3 : a ≤ x ∧ x < a + n
        · rw [if_pos h3, if_pos (show a ≤ x ∧ x < a + (n + 1) by omega)]
        · rw [if_neg h3, if_neg (show ¬ (a ≤ x ∧ x < a + (n + 1)) by omega)]
          by_cases h4 : b ≤ x ∧ x < b + n
          · rw [if_pos h4, if_pos (show b ≤ x ∧ x < b + (n + 1) by omega)]
          · rw [if_neg h4, if_neg (show ¬ (b ≤ x ∧ x < b + (n + 1)) by omega)]
theorem swapN_perm {lo hi a b : Nat} {d : Array RR} (hh : hi ≤ d.size) (h1 : lo ≤ a) (h2 : lo ≤ b) : ∀ n, a + n ≤ hi → b + n ≤ hi → PermIn lo hi d (swapN a b n d) := by
  intro n
  induction n with
  | zero => intro _ _; exact permIn_refl _ _ _
  | succ n ih =>
    intro ha hb
    exact permIn_trans _ _ _ _ _ (ih (by omega) (by omega)) (swp_permIn _ _ _ _ _ (by omega) (by omega) (by omega) (by omega) (by rw [size_swapN]; exact hh))
/-- The two parts around m, i and j long, have changed places. -/
structure Rot (m i j : Nat) (d d' : Array RR) : Prop where
  size : d'.size = d.size
  left : ∀ t, t < j → d'[m - i + t]! = d[m + t]!
  right : ∀ t, t < i → d'[m - i + j + t]! = d[m - i + t]!
  out : ∀ x, x < m - i ∨ m + j ≤ x → d'[x]! = d[x]!
  perm : PermIn (m - i) (m + j) d d'
theorem rot_same {m i : Nat} {d : Array RR} (hi : i ≤ m) (hb : m + i ≤ d.size) : Rot m i i d (swapN (m - i) m i d) := by
  have g := swapN_get (a := m - i) (b := m) (d := d) i (by omega) (by omega) hb
  refine ⟨size_swapN _ _ _ _, fun t ht => ?_, fun t ht => ?_, fun x hx => ?_, swapN_perm hb (by omega) (by omega) _ (by omega) (by omega)⟩
  · rw [g, if_pos (by omega), show m + (m - i + t - (m - i)) = m + t by omega]
  · rw [g, if_neg (by omega), if_pos (by omega), show m - i + (m - i + i + t - m) = m - i + t by omega]
  · rw [g, if_neg (by omega), if_neg (by omega)]
theorem rot_big {m i j : Nat} {d d' : Array RR} (hi : i ≤ m) (hji : j < i) (hb : m + j ≤ d.size) (h : Rot m (i - j) j (swapN (m - i) m j d) d') : Rot m i j d d' := by
  have g := swapN_get (a := m - i) (b := m) (d := d) j (by omega) (by omega) hb
  refine ⟨h.size.trans (size_swapN _ _ _ _), fun t ht => ?_, fun t ht => ?_, fun x hx => ?_, permIn_trans _ _ _ _ _ (swapN_perm hb (by omega) (by omega) _ (by omega) (by omega)) (permIn_mono _ _ _ _ _ _ (by omega) (by omega) (by rw [size_swapN]; exact hb) h.perm)⟩
  · rw [h.out _ (by omega), g, if_pos (by omega), show m + (m - i + t - (m - i)) = m + t by omega]
  · by_cases h1 : t < j
    · have := h.left t h1
      rw [show m - (i - j) + t = m - i + j + t by omega] at this
      rw [this, g, if_neg (by omega), if_pos (by omega), show m - i + (m + t - m) = m - i + t by omega]
    · have := h.right (t - j) (by omega)
      rw [show m - (i - j) + j + (t - j) = m - i + j + t by omega, show m - (i - j) + (t - j) = m - i + t by omega] at this
      rw [this, g, if_neg (by omega), if_neg (by omega)]
  · rw [h.out _ (by omega), g, if_neg (by omega), if_neg (by omega)]
theorem rot_small {m i j : Nat} {d d' : Array RR} (hi : i ≤ m) (hij : i < j) (hb : m + j ≤ d.size) (h : Rot m i (j - i) (swapN (m - i) (m + j - i) i d) d') : Rot m i j d d' := by
  have g := swapN_get (a := m - i) (b := m + j - i) (d := d) i (by omega) (by omega) (by omega)
  refine ⟨h.size.trans (size_swapN _ _ _ _), fun t ht => ?_, fun t ht => ?_, fun x hx => ?_, permIn_trans _ _ _ _ _ (swapN_perm hb (by omega) (by omega) _ (by omega) (by omega)) (permIn_mono _ _ _ _ _ _ (by omega) (by omega) (by rw [size_swapN]; exact hb) h.perm)⟩
  · by_cases h1 : t < j - i
    · rw [h.left t h1, g, if_neg (by omega), if_neg (by omega)]
    · have := h.right (t - (j - i)) (by omega)
      rw [show m - i + (j - i) + (t - (j - i)) = m - i + t by omega, show m - i + (t - (j - i)) = m - i + (t - (j - i)) from rfl] at this
      rw [this, g, if_pos (by omega), show m + j - i + (m - i + (t - (j - i)) - (m - i)) = m + t by omega]
  · rw [h.out _ (by omega), g, if_neg (by omega), if_pos (by omega), show m - i + (m - i + j + t - (m + j - i)) = m - i + t by omega]
  · rw [h.out _ (by omega), g, if_neg (by omega), if_neg (by omega)]
set_option maxHeartbeats 4000000 in
set_option maxRecDepth 1000000 in
theorem rotate_any (wb : World) (G c a m b : Nat) (d : Array RR) (w : World) (S : St wb G d w) (ham : a < m) (hmb : m < b) (hb : b ≤ d.size) (hsz : d.size ≤ 1000000) :
    Calls Tryd.prog 156 #[.slice (some ⟨G, 0, none⟩) d.size c, .int .i64 a, .int .i64 m, .int .i64 b, .func (.func 73) #[] #[]] w fun e w' => e = .returned (.tuple #[]) ∧ ∃ d', St wb G d' w' ∧ Rot m (m - a) (b - m) d d' := by
  go_enter Tryd.func156, Tryd.ntmps156
  go_wp2
  go_loopg [10, 11] (b - a) (fun g vi vj wr => ∃ (i j : Nat) (dk : Array RR), vi = .int .i64 i ∧ vj = .int .i64 j ∧ 0 < i ∧ 0 < j ∧ i ≤ m ∧ m + j ≤ d.size ∧ i + j ≤ g ∧ dk.size = d.size ∧ St wb G dk wr ∧ Hid (∀ d', Rot m i j dk d' → Rot m (m - a) (b - m) d d'))
  case atStart => exact ⟨m - a, b - m, d, by congr 1; omega, by congr 1; omega, by omega, by omega, by omega, by omega, by omega, rfl, S, Lib.hid fun _ h => h⟩
  case round =>
    clear S
    obtain ⟨i, j, dk, rfl, rfl, hi0, hj0, him, hmj, hg, hs, S, HR⟩ := hrel
    have q1 : (m : Int) - i = ((m - i : Nat) : Int) := by omega
    by_cases hij : i = j
    · subst hij
      have hne : ((i : Int) != (i : Int)) = false := by simp
      have HX := Lib.hid (HR.out _ (rot_same (d := dk) him (by omega)))
      go_wp2_with fail
      have hC := swapRange_any wb G c (m - i) m i dk _ S (by omega) (by omega) (by omega) (by omega)
      rw [hs] at hC
      refine hC.mono ?_
      rintro e w1 ⟨rfl, S1⟩
      go_wp2
      go_end0
      exact ⟨rfl, _, S1, HX.out⟩
    · have hne : ((i : Int) != (j : Int)) = true := by rw [bne_iff_ne]; omega
      by_cases hlt : j < i
      · have hgt : (j : Int) < (i : Int) := by omega
        have HX := Lib.hid (fun d' h => HR.out d' (rot_big (d := dk) him hlt (by omega) h))
        go_wp2_with fail
        have hC := swapRange_any wb G c (m - i) m j dk _ S (by omega) (by omega) (by omega) (by omega)
        rw [hs] at hC
        refine hC.mono ?_
        rintro e w1 ⟨rfl, S1⟩
        go_wp2
        go_roundg (i - j + j)
        case measure => omega
        case rel => exact ⟨i - j, j, _, by congr 1; omega, rfl, by omega, hj0, by omega, by omega, Nat.le_refl _, by rw [size_swapN]; exact hs, S1, HX⟩
      · have hgt : ¬ (j : Int) < (i : Int) := by omega
        have hlt2 : i < j := by omega
        have q2 : (m : Int) + j - i = ((m + j - i : Nat) : Int) := by omega
        have HX := Lib.hid (fun d' h => HR.out d' (rot_small (d := dk) him hlt2 (by omega) h))
        go_wp2_with fail
        have hC := swapRange_any wb G c (m - i) (m + j - i) i dk _ S (by omega) (by omega) (by omega) (by omega)
        rw [hs] at hC
        refine hC.mono ?_
        rintro e w1 ⟨rfl, S1⟩
        go_wp2
        go_roundg (i + (j - i))
        case measure => omega
        case rel => exact ⟨i, j - i, _, rfl, by congr 1; omega, hi0, by omega, him, by omega, Nat.le_refl _, by rw [size_swapN]; exact hs, S1, HX⟩
end Go.Proofs.YtdibijhaiaiifaaDoor
/- The plain laws of the library's symMerge: binary search, the two short merges, the cross of the long one. -/
namespace Go.Proofs.YtdibijhaiaiifaaDoor
open Go.Sort
/-- A search between lo and hi, at i and j. -/
structure Srch (P : Nat → Bool) (lo hi i j : Nat) : Prop where
  flo : lo ≤ i
  fij : i ≤ j
  fhi : j ≤ hi
  no : ∀ c, lo ≤ c → c < i → P c = false
  yes : ∀ c, j ≤ c → c < hi → P c = true
theorem Srch.start (P : Nat → Bool) {lo hi : Nat} (h : lo ≤ hi) : Srch P lo hi lo hi := ⟨Nat.le_refl _, h, Nat.le_refl _, fun c _ _ => by omega, fun c _ _ => by omega⟩
theorem Srch.up {P : Nat → Bool} {lo hi i j c : Nat} (h : Srch P lo hi i j) (hm : ∀ x y, lo ≤ x → x ≤ y → y < hi → P x = true → P y = true) (h1 : i ≤ c) (h2 : c < j) (hc : P c = false) : Srch P lo hi (c + 1) j := by
  refine ⟨by have := h.flo; omega, h2, h.fhi, fun x hx hxc => ?_, h.yes⟩
  cases e : P x with
  | false => rfl
  | true => rw [hm x c hx (by omega) (by have := h.fhi; omega) e] at hc; cases hc
theorem Srch.down {P : Nat → Bool} {lo hi i j c : Nat} (h : Srch P lo hi i j) (hm : ∀ x y, lo ≤ x → x ≤ y → y < hi → P x = true → P y = true) (h1 : i ≤ c) (h2 : c < j) (hc : P c = true) : Srch P lo hi i c :=
  ⟨h.flo, h1, by have := h.fhi; omega, h.no, fun x hx hxh => hm c x (by have := h.flo; omega) hx hxh hc⟩
section
variable {d d' d0 : Array RR} {a m b : Nat}
theorem lt_le {x y z : RR} (h : ltR x y = true) (k : ltR z y = false) : ltR x z = true := by
  cases e : ltR x z with
  | true => rfl
  | false => rw [swoR.ntrans _ _ _ e k] at h; cases h
theorem le_lt {x y z : RR} (h : ltR y x = false) (k : ltR y z = true) : ltR x z = true := by
  cases e : ltR x z with
  | true => rfl
  | false => rw [swoR.ntrans _ _ _ h e] at k; cases k
theorem asymm {x y : RR} (h : ltR x y = true) : ltR y x = false := by
  cases e : ltR y x with
  | false => rfl
  | true => have := swoR.trans _ _ _ h e; rw [swoR.irrefl] at this; cases this
theorem SortedIn.le {i j : Nat} (h : SortedIn ltR a b d) (h1 : a ≤ i) (h2 : i ≤ j) (h3 : j < b) : ltR d[j]! d[i]! = false := by
  rcases Nat.lt_or_eq_of_le h2 with h2 | rfl
  · exact h i j h1 h2 h3
  · exact swoR.irrefl _
/-- The first part is one row: it moves up, k steps done. -/
structure Up1 (a b k : Nat) (d d' : Array RR) : Prop where
  perm : PermIn a b d d'
  at_ : d'[k]! = d[a]!
  lo : ∀ x, a ≤ x → x < k → d'[x]! = d[x + 1]!
  hi : ∀ x, k < x → d'[x]! = d[x]!
theorem Up1.start (a b : Nat) (d : Array RR) : Up1 a b a d d := ⟨permIn_refl _ _ _, rfl, fun _ _ _ => by omega, fun _ _ => rfl⟩
theorem Up1.step {k : Nat} (h : Up1 a b k d d') (hk : a ≤ k) (hb : k + 1 < b) (hs : b ≤ d.size) : Up1 a b (k + 1) d (swp d' k (k + 1)) := by
  have hz : d'.size = d.size := h.perm.1
  refine ⟨permIn_trans _ _ _ _ _ h.perm (swp_permIn _ _ _ _ _ hk (by omega) (by omega) hb (by omega)), ?_, fun x h1 h2 => ?_, fun x h1 => ?_⟩
  · rw [swp_get _ _ _ _ (by omega) (by omega), if_pos rfl, h.at_]
  · rw [swp_get _ _ _ _ (by omega) (by omega), if_neg (by omega)]
    by_cases e : x = k
    · subst e; rw [if_pos rfl, h.hi _ (by omega)]
    · rw [if_neg e, h.lo x h1 (by omega)]
  · rw [swp_get _ _ _ _ (by omega) (by omega), if_neg (by omega), if_neg (by omega), h.hi x (by omega)]
theorem merged1 {i : Nat} (h2 : SortedIn ltR (a + 1) b d) (F : Srch (fun c => !ltR d[c]! d[a]!) (a + 1) b i i) (U : Up1 a b (i - 1) d d') : SortedIn ltR a b d' := by
  have F1 := F.flo
  have F2 := F.fhi
  have no : ∀ c, a + 1 ≤ c → c < i → ltR d[c]! d[a]! = true := fun c x y => by have := F.no c x y; simpa using this
  have yes : ∀ c, i ≤ c → c < b → ltR d[c]! d[a]! = false := fun c x y => by have := F.yes c x y; simpa using this
  intro x y hx hxy hy
  by_cases e1 : y < i - 1
  · rw [U.lo x hx (by omega), U.lo y (by omega) e1]; exact h2 _ _ (by omega) (by omega) (by omega)
  · by_cases e2 : y = i - 1
    · subst e2
      rw [U.at_, U.lo x hx hxy]; exact asymm (no _ (by omega) (by omega))
    · rw [U.hi y (by omega)]
      by_cases e3 : x < i - 1
      · rw [U.lo x hx e3]; exact h2 _ _ (by omega) (by omega) (by omega)
      · by_cases e4 : x = i - 1
        · subst e4; rw [U.at_]; exact yes _ (by omega) hy
        · rw [U.hi x (by omega)]; exact h2 _ _ (by omega) (by omega) (by omega)
/-- The second part is one row: it moves down to k. -/
structure Dn1 (a m k : Nat) (d d' : Array RR) : Prop where
  perm : PermIn a (m + 1) d d'
  at_ : d'[k]! = d[m]!
  lo : ∀ x, x < k → d'[x]! = d[x]!
  hi : ∀ x, k < x → x ≤ m → d'[x]! = d[x - 1]!
  out : ∀ x, m < x → d'[x]! = d[x]!
theorem Dn1.start (a m : Nat) (d : Array RR) : Dn1 a m m d d := ⟨permIn_refl _ _ _, rfl, fun _ _ => rfl, fun _ _ _ => by omega, fun _ _ => rfl⟩
theorem Dn1.step {k : Nat} (h : Dn1 a m (k + 1) d d') (hk : a ≤ k) (hb : k + 1 ≤ m) (hs : m + 1 ≤ d.size) : Dn1 a m k d (swp d' (k + 1) k) := by
  have hz : d'.size = d.size := h.perm.1
  refine ⟨permIn_trans _ _ _ _ _ h.perm (swp_permIn _ _ _ _ _ (by omega) (by omega) (by omega) (by omega) (by omega)), ?_, fun x h1 => ?_, fun x h1 h2 => ?_, fun x h1 => ?_⟩
  · rw [swp_get _ _ _ _ (by omega) (by omega), if_pos rfl, h.at_]
  · rw [swp_get _ _ _ _ (by omega) (by omega), if_neg (by omega), if_neg (by omega), h.lo x (by omega)]
  · rw [swp_get _ _ _ _ (by omega) (by omega), if_neg (by omega)]
    by_cases e : x = k + 1
    · subst e; rw [if_pos rfl, h.lo _ (by omega)]; rfl
    · rw [if_neg e, h.hi x (by omega) h2]
  · rw [swp_get _ _ _ _ (by omega) (by omega), if_neg (by omega), if_neg (by omega), h.out x h1]
theorem merged2 {i : Nat} (h1 : SortedIn ltR a m d) (F : Srch (fun c => ltR d[m]! d[c]!) a m i i) (U : Dn1 a m i d d') : SortedIn ltR a (m + 1) d' := by
  have F1 := F.flo
  have F2 := F.fhi
  intro x y hx hxy hy
  by_cases e1 : y < i
  · rw [U.lo x (by omega), U.lo y e1]; exact h1 _ _ hx hxy (by omega)
  · by_cases e2 : y = i
    · subst e2
      rw [U.at_, U.lo x hxy]; exact F.no x hx hxy
    · rw [U.hi y (by omega) (by omega)]
      by_cases e3 : x < i
      · rw [U.lo x e3]; exact SortedIn.le h1 hx (by omega) (by omega)
      · by_cases e4 : x = i
        · subst e4; rw [U.at_]; exact asymm (F.yes _ (by omega) (by omega))
        · rw [U.hi x (by omega) (by omega)]; exact h1 _ _ (by omega) (by omega) (by omega)
/-! ### the long merge -/
/-- Where the search of the long merge runs. -/
structure Lm (a m b mid lo hi : Nat) : Prop where
  am : a < m
  mb : m < b
  emid : mid = (a + b) / 2
  le : lo ≤ hi
  cs : (mid < m ∧ lo = mid + m - b ∧ hi = mid) ∨ (m ≤ mid ∧ lo = a ∧ hi = m)
theorem Lm.mono {mid lo hi : Nat} (L : Lm a m b mid lo hi) (h1 : SortedIn ltR a m d) (h2 : SortedIn ltR m b d) : ∀ x y, lo ≤ x → x ≤ y → y < hi → ltR d[mid + m - 1 - x]! d[x]! = true → ltR d[mid + m - 1 - y]! d[y]! = true := by
  obtain ⟨am, mb, e, le, cs⟩ := L
  intro x y hx hxy hy h
  have k1 : ltR d[y]! d[x]! = false := SortedIn.le h1 (by rcases cs with c | c <;> omega) hxy (by rcases cs with c | c <;> omega)
  have k2 : ltR d[mid + m - 1 - x]! d[mid + m - 1 - y]! = false := SortedIn.le h2 (by rcases cs with c | c <;> omega) (by omega) (by rcases cs with c | c <;> omega)
  exact lt_le (le_lt k2 h) k1
/-- Every row of the left half is at most every one of the right half. -/
def Cross (a mid b : Nat) (d : Array RR) : Prop := ∀ x y, a ≤ x → x < mid → mid ≤ y → y < b → ltR d[y]! d[x]! = false
theorem Lm.ends {mid lo hi s : Nat} (L : Lm a m b mid lo hi) (F : Srch (fun c => ltR d[mid + m - 1 - c]! d[c]!) lo hi s s) : a ≤ s ∧ s ≤ m ∧ m ≤ mid + m - s ∧ mid + m - s ≤ b ∧ s ≤ mid ∧ mid ≤ mid + m - s ∧ s ≤ mid + m := by
  have F1 := F.flo
  have F2 := F.fhi
  obtain ⟨am, mb, e, le, cs⟩ := L
  rcases cs with c | c <;> omega
/-- What the rotation leaves: where each row comes from. -/
structure Rtd (s m e : Nat) (d d' : Array RR) : Prop where
  left : ∀ t, t < e - m → d'[s + t]! = d[m + t]!
  right : ∀ t, t < m - s → d'[s + (e - m) + t]! = d[s + t]!
  out : ∀ x, x < s ∨ e ≤ x → d'[x]! = d[x]!
  perm : PermIn s e d d'
theorem Rtd.of {s e : Nat} (h1 : s < m) (h2 : m < e) (R : Rot m (m - s) (e - m) d d') : Rtd s m e d d' := by
  obtain ⟨_, l, r, o, p⟩ := R
  have e1 : m - (m - s) = s := by omega
  have e2 : m + (e - m) = e := by omega
  rw [e1] at l r o p
  rw [e2] at o p
  exact ⟨l, r, o, p⟩
theorem Rtd.none {s e : Nat} (h1 : s ≤ m) (h2 : m ≤ e) (h : ¬ (s < m ∧ m < e)) : Rtd s m e d d := by
  refine ⟨fun t ht => ?_, fun t ht => ?_, fun _ _ => rfl, permIn_refl _ _ _⟩
  · rw [show s = m by omega]
  · rw [show s + (e - m) + t = s + t by omega]
theorem Lm.cross {mid lo hi s : Nat} (L : Lm a m b mid lo hi) (h1 : SortedIn ltR a m d) (h2 : SortedIn ltR m b d) (F : Srch (fun c => ltR d[mid + m - 1 - c]! d[c]!) lo hi s s) (R : Rtd s m (mid + m - s) d d') :
    Cross a mid b d' ∧ SortedIn ltR a s d' ∧ SortedIn ltR s mid d' ∧ SortedIn ltR mid (mid + m - s) d' ∧ SortedIn ltR (mid + m - s) b d' := by
  obtain ⟨q1, q2, q3, q4, q5, q6, q7⟩ := L.ends F
  have F1 := F.flo
  have F2 := F.fhi
  obtain ⟨am, mb, e, le, cs⟩ := L
  obtain ⟨r1, r2, r3, _⟩ := R
  have g1 : ∀ x, s ≤ x → x < mid → d'[x]! = d[m + (x - s)]! := fun x k1 k2 => by have := r1 (x - s) (by omega); rwa [show s + (x - s) = x by omega] at this
  have g2 : ∀ x, mid ≤ x → x < mid + m - s → d'[x]! = d[s + (x - mid)]! := fun x k1 k2 => by have := r2 (x - mid) (by omega); rwa [show s + (mid + m - s - m) + (x - mid) = x by omega] at this
  refine ⟨fun x y hx hxm hmy hy => ?_, fun x y hx hxy hy => ?_, fun x y hx hxy hy => ?_, fun x y hx hxy hy => ?_, fun x y hx hxy hy => ?_⟩
  · by_cases e1 : x < s
    · rw [r3 x (.inl e1)]
      by_cases e2 : y < mid + m - s
      · rw [g2 y hmy e2]; exact h1 _ _ hx (by omega) (by omega)
      · rw [r3 y (.inr (by omega))]
        have k0 : lo ≤ s - 1 := by rcases cs with c | c <;> omega
        have k1 := F.no (s - 1) k0 (by omega)
        have k2 : ltR d[s - 1]! d[x]! = false := SortedIn.le h1 hx (by omega) (by omega)
        have k3 : ltR d[y]! d[mid + m - 1 - (s - 1)]! = false := SortedIn.le h2 (by omega) (by omega) hy
        exact swoR.ntrans _ _ _ k3 (swoR.ntrans _ _ _ k1 k2)
    · rw [g1 x (by omega) hxm]
      by_cases e2 : y < mid + m - s
      · rw [g2 y hmy e2]
        have k0 : s < hi := by rcases cs with c | c <;> omega
        have k1 := F.yes s (Nat.le_refl _) k0
        have k2 : ltR d[s + (y - mid)]! d[s]! = false := SortedIn.le h1 (by omega) (by omega) (by omega)
        have k3 : ltR d[mid + m - 1 - s]! d[m + (x - s)]! = false := SortedIn.le h2 (by omega) (by omega) (by omega)
        exact asymm (lt_le (le_lt k3 k1) k2)
      · rw [r3 y (.inr (by omega))]; exact h2 _ _ (by omega) (by omega) hy
  · rw [r3 x (.inl (by omega)), r3 y (.inl (by omega))]; exact h1 _ _ hx hxy (by omega)
  · rw [g1 x hx (by omega), g1 y (by omega) hy]; exact h2 _ _ (by omega) (by omega) (by omega)
  · rw [g2 x hx (by omega), g2 y (by omega) hy]; exact h1 _ _ (by omega) (by omega) (by omega)
  · rw [r3 x (.inr (by omega)), r3 y (.inr (by omega))]; exact h2 _ _ (by omega) (by omega) hy
theorem Cross.left {mid : Nat} (h : Cross a mid b d) (hb : b ≤ d.size) (hm : mid ≤ b) (p : PermIn a mid d d') : Cross a mid b d' := by
  intro x y hx hxm hmy hy
  rw [p.2.1 y (.inr hmy)]
  exact permIn_all _ _ _ _ (fun z => ltR d[y]! z = false) (by omega) p (fun i k1 k2 => h i y k1 k2 hmy hy) x hx hxm
theorem Cross.right {mid : Nat} (h : Cross a mid b d) (hb : b ≤ d.size) (p : PermIn mid b d d') : Cross a mid b d' := by
  intro x y hx hxm hmy hy
  rw [p.2.1 x (.inl hxm)]
  exact permIn_all _ _ _ _ (fun z => ltR z d[x]! = false) hb p (fun i k1 k2 => h x i hx hxm k1 k2) y hmy hy
theorem SortedIn.same (h : SortedIn ltR a b d) (e : ∀ x, a ≤ x → x < b → d'[x]! = d[x]!) : SortedIn ltR a b d' := by
  intro x y hx hxy hy
  rw [e x hx (by omega), e y (by omega) hy]
  exact h x y hx hxy hy
theorem SortedIn.short (h : b ≤ a + 1) : SortedIn ltR a b d := fun x y hx hxy hy => by omega
theorem Cross.sorted {mid : Nat} (h : Cross a mid b d) (h1 : SortedIn ltR a mid d) (h2 : SortedIn ltR mid b d) : SortedIn ltR a b d := by
  intro x y hx hxy hy
  by_cases e1 : y < mid
  · exact h1 x y hx hxy e1
  · by_cases e2 : x < mid
    · exact h x y hx e2 (by omega) hy
    · exact h2 x y (by omega) hxy hy
theorem half_none {s : Nat} (h1 : SortedIn ltR a s d) (h2 : SortedIn ltR s b d) (h : ¬ (a < s ∧ s < b)) (ha : a ≤ s) (hb : s ≤ b) : SortedIn ltR a b d := by
  by_cases e : a = s
  · subst e; exact h2
  · have : s = b := by omega
    subst this; exact h1
end
end Go.Proofs.YtdibijhaiaiifaaDoor
