/- Parts Kit, Late: words, walks and laws that the claims of this seat share. -/
import Derived.Test.YtdibijhaiaiifaaDoorJ3
import Derived.Deep.RegionLaw
import Derived.Deep.AppendLies
import Derived.Laws.CopyOwn
import Derived.Deep.OwnRows
import Derived.Deep.Upon
import Derived.OrdersHeld
import Derived.Deep.RegionHeld3
import Derived.Deep.RegionWith
/- Rows in memory, append of rows, regions that draw their order: general laws. -/
namespace Go.Proofs.YtdibijhaiaiifaaDoor
open Go.RowKit
/-- Every cell that is there stays what it is. -/
def Keeps (w w' : World) : Prop := ∀ p v, w.cell? p = some v → w'.cell? p = some v
theorem Keeps.refl (w : World) : Keeps w w := fun _ _ h => h
theorem Keeps.trans {a b c : World} (h : Keeps a b) (k : Keeps b c) : Keeps a c := fun p v x => k p v (h p v x)
theorem keeps_below {w w' : World} (hb : Below w.heap.size w w') : Keeps w w' := fun _ _ h => cell_keep hb h
theorem ret_bool {a b : Bool} (h : a = b) : Ending.returned (.bool a) = .returned (.bool b) := by rw [h]
theorem ne_beq {a b : Int} (h : ¬a = b) : (a == b) = false := by simpa using h
/-- The slice at a (as wide as l) reads as the records l, each as enc lays it into k cells. -/
def RowsAt {α : Type} (k : Nat) (enc : α → List Value) (w : World) (a : Option Addr) (l : List α) : Prop :=
  l = [] ∨ ∃ b off, a = some ⟨b, off, none⟩ ∧ ∀ i x, l[i]? = some x → ∀ j u, (enc x)[j]? = some u → w.cell? ⟨b, off + i * k + j, none⟩ = some u
def IsRows {α : Type} (k : Nat) (enc : α → List Value) (w : World) (v : Value) (l : List α) : Prop :=
  ∃ a c, v = .slice a l.length c ∧ RowsAt k enc w a l ∧ l.length ≤ 9223372036854775807 ∧ l.length ≤ c ∧ c ≤ 9223372036854775807
theorem RowsAt.keep {α : Type} {k : Nat} {enc : α → List Value} {w w' : World} {a : Option Addr} {l : List α} (h : RowsAt k enc w a l) (hk : Keeps w w') : RowsAt k enc w' a l := by
  rcases h with h | ⟨b, off, ha, hc⟩
  · exact .inl h
  · exact .inr ⟨b, off, ha, fun i x hi j u hj => hk _ _ (hc i x hi j u hj)⟩
theorem IsRows.keep {α : Type} {k : Nat} {enc : α → List Value} {w w' : World} {v : Value} {l : List α} (h : IsRows k enc w v l) (hk : Keeps w w') : IsRows k enc w' v l := by
  obtain ⟨a, c, e, h, m⟩ := h
  exact ⟨a, c, e, h.keep hk, m⟩
theorem RowsAt.at_ {α : Type} {k : Nat} {enc : α → List Value} {w : World} {a : Option Addr} {l : List α} (h : RowsAt k enc w a l) {i : Nat} {x : α} (hi : l[i]? = some x) :
    ∃ b off, a = some ⟨b, off, none⟩ ∧ ∀ i x, l[i]? = some x → ∀ j u, (enc x)[j]? = some u → w.cell? ⟨b, off + i * k + j, none⟩ = some u := by
  rcases h with h | h
  · subst h; simp at hi
  · exact h
theorem flats_get {α : Type} {k : Nat} {enc : α → List Value} : ∀ (l : List α), (∀ x ∈ l, (enc x).length = k) → ∀ i x, l[i]? = some x → ∀ j u, (enc x)[j]? = some u → (l.flatMap enc)[i * k + j]? = some u
  | [], _, i, x, hi, _, _, _ => by simp at hi
  | y :: r, hl, 0, x, hi, j, u, hj => by
    obtain rfl : y = x := by simpa using hi
    rw [List.flatMap_cons, Nat.zero_mul, Nat.zero_add, List.getElem?_append_left]
    · exact hj
    · exact (List.getElem?_eq_some_iff.1 hj).1
  | y :: r, hl, i + 1, x, hi, j, u, hj => by
    have hy : (enc y).length = k := hl y (by simp)
    rw [List.flatMap_cons, List.getElem?_append_right (by rw [hy, Nat.add_mul]; omega), hy]
    rw [show (i + 1) * k + j - k = i * k + j from by rw [Nat.add_mul]; omega]
    exact flats_get r (fun z hz => hl z (by simp [hz])) i x (by simpa using hi) j u hj
/-- What a call owns reads as a list. -/
theorem IsRows.of_owns {α : Type} {k : Nat} {enc : α → List Value} {w : World} {base : Nat} {e : TypeId} {v : Value} {l : List α} (h : w.ownsRow base e k v l.length (l.flatMap enc)) (hl : ∀ x ∈ l, (enc x).length = k) (hm : l.length ≤ 9223372036854775807) : IsRows k enc w v l := by
  rcases h.2 with ⟨rfl, h0⟩ | ⟨g, cap, cur, hv, _, _, hnc, hcm, _⟩
  · have : l = [] := List.eq_nil_of_length_eq_zero h0
    subst this
    exact ⟨none, 0, rfl, .inl rfl, hm, by simp, by simp⟩
  · refine ⟨some ⟨g, 0, none⟩, cap, hv, .inr ⟨g, 0, rfl, fun i x hi j u hj => ?_⟩, hm, hnc, by unfold maxLen at hcm; omega⟩
    have hc := h.cells (g := g) (by rw [hv]; rfl) (i * k + j) u (flats_get l hl i x hi j u hj)
    have hadd : (⟨g, 0, none⟩ : Addr).add (i * k + j) = ⟨g, 0 + i * k + j, none⟩ := by
      unfold Addr.add; split
      · rename_i h0; rw [Nat.add_assoc, h0]
      · simp
    rwa [hadd] at hc

theorem below_new (w : World) (o : Obj) : Below w.heap.size w (w.alloc o) := (Below.refl _ _).alloc (Nat.le_refl _) _
theorem RowsAt.one {α : Type} {enc : α → List Value} {w : World} {a : Option Addr} {l : List α} (h : RowsAt 1 enc w a l) {i : Nat} {x : α} {u : Value} (hi : l[i]? = some x) (he : enc x = [u]) :
    ∃ b off, a = some ⟨b, off, none⟩ ∧ w.cell? ⟨b, off + i, none⟩ = some u := by
  obtain ⟨b, off, ha, hc⟩ := h.at_ hi
  refine ⟨b, off, ha, ?_⟩
  have := hc i x hi 0 u (by rw [he]; rfl)
  simpa using this
theorem free_at {w : World} {g j : Nat} {cs : Array Value} {t : TypeId} (h : w.heap[g]? = some (.cells cs t (0, 0))) : w.frozen? ⟨g, j, none⟩ = false := by
  simp [World.frozen?, h]
theorem cell_at {w : World} {g j : Nat} {cs : Array Value} {t : TypeId} {v : Value} (h : w.heap[g]? = some (.cells cs t (0, 0))) (hv : cs[j]? = some v) : w.cell? ⟨g, j, none⟩ = some v := by
  rw [cell_of_row _ g j cs t (0, 0) h]; exact hv
theorem block_lt {w : World} {g : Nat} {o : Obj} (h : w.heap[g]? = some o) : g < w.heap.size := (Array.getElem?_eq_some_iff.1 h).1
theorem block_keep {w w' : World} {g : Nat} {o : Obj} (h : w.heap[g]? = some o) (hb : Below w.heap.size w w') : w'.heap[g]? = some o := (hb.block g (block_lt h)).trans h
theorem flat_at {α : Type} {k : Nat} {enc : α → List Value} : ∀ (l : List α), (∀ x ∈ l, (enc x).length = k) → ∀ (J : Nat) (u : Value), (l.flatMap enc)[J]? = some u → ∃ i x j, l[i]? = some x ∧ (enc x)[j]? = some u ∧ J = i * k + j
  | [], _, J, u, h => by simp at h
  | y :: r, hl, J, u, h => by
    have hy : (enc y).length = k := hl y (by simp)
    rw [List.flatMap_cons] at h
    by_cases hJ : J < k
    · rw [List.getElem?_append_left (by omega)] at h
      exact ⟨0, y, J, rfl, h, by simp⟩
    · rw [List.getElem?_append_right (by omega), hy] at h
      obtain ⟨i, x, j, hi, hj, e⟩ := flat_at r (fun z hz => hl z (by simp [hz])) _ u h
      exact ⟨i + 1, x, j, by simpa using hi, hj, by rw [Nat.add_mul]; omega⟩
theorem flat_len {α : Type} {k : Nat} {enc : α → List Value} : ∀ (l : List α), (∀ x ∈ l, (enc x).length = k) → (l.flatMap enc).length = l.length * k
  | [], _ => by simp
  | y :: r, hl => by
    rw [List.flatMap_cons, List.length_append, hl y (by simp), flat_len r (fun z hz => hl z (by simp [hz])), List.length_cons, Nat.add_mul]; omega
theorem run_append_rows {α : Type} {w : World} (enc : α → List Value) (t ty : TypeId) (base : Nat) (e : TypeId) (i : TypeInfo) (z : Value) (size bytes : Nat) (ht : Tryd.prog.underlying t = some (.slice e)) (hi : Tryd.prog.info? e = some i) (hz : i.zero = some z)
    (hsize : i.size = size) (hby : i.bytes = bytes) (hzs : z.cells.size = size) (hsz : 0 < size)
    (v : Value) (n : Nat) (xs : List Value) (hown : w.ownsRow base e size v n xs) (x : Value) (l : List α) (hx : IsRows size enc w x l) (hl : ∀ y ∈ l, (enc y).length = size) (h1 : ∀ y ∈ l, ∀ u ∈ enc y, u.oneCell' = true)
    (h63 : n + l.length ≤ maxLen) (hbytes : (n + l.length) * bytes ≤ 140737488355328) (hbase : base ≤ w.heap.size) :
    ∃ v' w', (Builtin.append_ #[t, t] ty #[v, x]).run Tryd.prog w = .ok v' w' ∧ w'.ownsRow base e size v' (n + l.length) (xs ++ l.flatMap enc) ∧ w.grownBy w' v.ownBlock ∧ (v'.ownBlock = v.ownBlock ∨ v'.ownBlock = some w.heap.size) := by
  obtain ⟨a, c, rfl, hr, hm⟩ := hx
  cases a with
  | none =>
    have hnil : l = [] := by
      rcases hr with h | ⟨b, off, ha, _⟩
      · exact h
      · cases ha
    subst hnil
    have hgr : w.grownBy w v.ownBlock := ⟨rfl, rfl, rfl, Nat.le_refl _, fun _ _ _ => rfl⟩
    have hs : Src Tryd.prog i.size t (.slice none 0 c) 0 [] w := ⟨.inl ⟨e, ht⟩, fun _ => by rfl, by rfl, by rfl, by simp, by simp⟩
    rcases hown.2 with ⟨rfl, h0⟩ | ⟨g, cap, cur, rfl, hb, hg, hnc, hcm, hcs, htake⟩
    · exact ⟨_, _, run_append_nothing w t t ty e i ht hi none 0 0 (Nat.le_refl _) _ hs, by simpa using hown, hgr, .inl rfl⟩
    · exact ⟨_, _, run_append_nothing w t t ty e i ht hi _ n cap hnc _ hs, by simpa using hown, hgr, .inl rfl⟩
  | some ad =>
    have hnews : ∀ J u, (l.flatMap enc)[J]? = some u → w.cell? (ad.add J) = some u := by
      intro J u hJ
      obtain ⟨i, y, j, hi, hj, rfl⟩ := flat_at l hl J u hJ
      obtain ⟨b, off, ha, hc⟩ := hr.at_ hi
      obtain rfl : ad = ⟨b, off, none⟩ := by simpa using ha
      have := hc i y hi j u hj
      have hadd : (⟨b, off, none⟩ : Addr).add (i * size + j) = ⟨b, off + i * size + j, none⟩ := by
        unfold Addr.add; split
        · rename_i h0; rw [Nat.add_assoc, h0]; simp
        · rw [Nat.add_assoc]
      rw [hadd]; exact this
    have h1' : ∀ u ∈ l.flatMap enc, u.oneCell' = true := fun u hu => by
      obtain ⟨y, hy, hu⟩ := List.mem_flatMap.1 hu
      exact h1 y hy u hu
    obtain ⟨v', w', hrun, h2, h3, -, h5⟩ := run_append_own_at (P := Tryd.prog) w base t ty e i z size bytes ht hi hz hsize hby hzs hsz v n xs hown ad l.length c (l.flatMap enc) (flat_len l hl) hnews h1' h63 hbytes hbase
    exact ⟨v', w', hrun, h2, h3, h5⟩
theorem wp_append_rows {α : Type} {w : World} {o : Oper} {a : Act} {K : Act → World → Prop} {Q : Exit → Act → World → Prop} (enc : α → List Value) (s y : Operand) (t : TypeId)
    (ho : o.op = .call { callee := .builtin .append, args := #[s, y], argTypes := #[t, t] }) (base : Nat) (e : TypeId) (i : TypeInfo) (z : Value) (size bytes : Nat) (ht : Tryd.prog.underlying t = some (.slice e)) (hi : Tryd.prog.info? e = some i) (hz : i.zero = some z)
    (hsize : i.size = size) (hby : i.bytes = bytes) (hzs : z.cells.size = size) (hsz : 0 < size)
    (v : Value) (n : Nat) (xs : List Value) (hs : a.eval s = v) (hown : w.ownsRow base e size v n xs) (x : Value) (l : List α) (hx' : a.eval y = x) (hx : IsRows size enc w x l) (hl : ∀ y ∈ l, (enc y).length = size) (h1 : ∀ y ∈ l, ∀ u ∈ enc y, u.oneCell' = true)
    (h63 : n + l.length ≤ maxLen) (hbytes : (n + l.length) * bytes ≤ 140737488355328) (hbase : base ≤ w.heap.size)
    (h : ∀ v' w', w'.ownsRow base e size v' (n + l.length) (xs ++ l.flatMap enc) → w.grownBy w' v.ownBlock → (v'.ownBlock = v.ownBlock ∨ v'.ownBlock = some w.heap.size) → K (a.put o.dst v') w') : o.wp Tryd.prog a w K Q := by
  obtain ⟨v', w', hr, h2, h3, h4⟩ := run_append_rows enc t o.type base e i z size bytes ht hi hz hsize hby hzs hsz v n xs hown x l hx hl h1 h63 hbytes hbase
  unfold Oper.wp execOp
  simp only [ho, resolve, invoke, builtin, Sem.run_bind, Sem.run_pure, Result.andThen_ok, List.map_toArray, List.map_cons, List.map_nil, hs, hx', hr]
  exact h v' w' h2 h3 h4
theorem wpList_append_rows {α : Type} {w : World} {ops : Array Oper} {rest : List Oper} {o : Oper} {a : Act} {Q : Exit → Act → World → Prop} (hgd : o.guard = none) (enc : α → List Value) (s y : Operand) (t : TypeId)
    (ho : o.op = .call { callee := .builtin .append, args := #[s, y], argTypes := #[t, t] }) (base : Nat) (e : TypeId) (i : TypeInfo) (z : Value) (size bytes : Nat) (ht : Tryd.prog.underlying t = some (.slice e)) (hi : Tryd.prog.info? e = some i) (hz : i.zero = some z)
    (hsize : i.size = size) (hby : i.bytes = bytes) (hzs : z.cells.size = size) (hsz : 0 < size)
    (v : Value) (n : Nat) (xs : List Value) (hs : a.eval s = v) (hown : w.ownsRow base e size v n xs) (x : Value) (l : List α) (hx' : a.eval y = x) (hx : IsRows size enc w x l) (hl : ∀ y ∈ l, (enc y).length = size) (h1 : ∀ y ∈ l, ∀ u ∈ enc y, u.oneCell' = true)
    (h63 : n + l.length ≤ maxLen) (hbytes : (n + l.length) * bytes ≤ 140737488355328) (hbase : base ≤ w.heap.size)
    (h : ∀ v' w', w'.ownsRow base e size v' (n + l.length) (xs ++ l.flatMap enc) → w.grownBy w' v.ownBlock → (v'.ownBlock = v.ownBlock ∨ v'.ownBlock = some w.heap.size) → wpList Tryd.prog ops Q rest (a.put o.dst v') w') : wpList Tryd.prog ops Q (o :: rest) a w :=
  wpList_plain hgd fun _ hK => wp_append_rows enc s y t ho base e i z size bytes ht hi hz hsize hby hzs hsz v n xs hs hown x l hx' hx hl h1 h63 hbytes hbase fun v' w' h2 h3 h4 => hK _ _ (h v' w' h2 h3 h4)
/-- In a region that draws its order, guarded or not. -/
theorem step_append_rows {α : Type} {w : World} {ops : Array Oper} {o : Oper} {a : Act} {K : Act → World → Prop} {Q : Exit → Act → World → Prop} {E : Prop} (hw : Region.wanted o (yielded ops a.tmps) = true) (enc : α → List Value) (s y : Operand) (t : TypeId)
    (ho : o.op = .call { callee := .builtin .append, args := #[s, y], argTypes := #[t, t] }) (base : Nat) (e : TypeId) (i : TypeInfo) (z : Value) (size bytes : Nat) (ht : Tryd.prog.underlying t = some (.slice e)) (hi : Tryd.prog.info? e = some i) (hz : i.zero = some z)
    (hsize : i.size = size) (hby : i.bytes = bytes) (hzs : z.cells.size = size) (hsz : 0 < size)
    (v : Value) (n : Nat) (xs : List Value) (hs : a.eval s = v) (hown : w.ownsRow base e size v n xs) (x : Value) (l : List α) (hx' : a.eval y = x) (hx : IsRows size enc w x l) (hl : ∀ y ∈ l, (enc y).length = size) (h1 : ∀ y ∈ l, ∀ u ∈ enc y, u.oneCell' = true)
    (h63 : n + l.length ≤ maxLen) (hbytes : (n + l.length) * bytes ≤ 140737488355328) (hbase : base ≤ w.heap.size)
    (h : ∀ v' w', w'.ownsRow base e size v' (n + l.length) (xs ++ l.flatMap enc) → w.grownBy w' v.ownBlock → (v'.ownBlock = v.ownBlock ∨ v'.ownBlock = some w.heap.size) → K (a.put o.dst v') w') : if Region.wanted o (yielded ops a.tmps) = true then Oper.wp Tryd.prog o a w K Q else E := by
  rw [if_pos hw]
  exact wp_append_rows enc s y t ho base e i z size bytes ht hi hz hsize hby hzs hsz v n xs hs hown x l hx' hx hl h1 h63 hbytes hbase h
theorem own_keep {w w' : World} {base : Nat} {e : TypeId} {size n : Nat} {v : Value} {xs : List Value} (h : w.ownsRow base e size v n xs) (hb : Below w.heap.size w w') : w'.ownsRow base e size v n xs :=
  h.kept (row := none) ⟨hb.os, hb.tape, hb.output, hb.size, fun i hi _ => hb.block i hi⟩ (by cases hv : v.ownBlock <;> simp)
theorem own_succ {W : World} {base : Nat} {e : TypeId} {size : Nat} {v : Value} {k : Nat} {xs : List Value} (h : W.ownsRow base e size v (k + 1) xs) : ∃ g cap, v = .slice (some ⟨g, 0, none⟩) (k + 1) cap ∧ base ≤ g := by
  rcases h.2 with ⟨_, h0⟩ | ⟨g, cap, _, rfl, hg, _⟩
  · omega
  · exact ⟨g, cap, rfl, hg⟩
/-- Where a slice's own row lies behind an append. -/
def Moved (w : World) (v v' : Value) : Prop := v'.ownBlock = v.ownBlock ∨ v'.ownBlock = some w.heap.size
theorem below_alloc' {a w : World} {o : Obj} (hB : Below a.heap.size a w) : Below a.heap.size a (w.alloc o) := hB.alloc hB.size o
theorem below_drew' {B : Nat} {a w : World} (h : Below B a w) : Below B a w.drew := h.drew
theorem below_undrew {B : Nat} {a w : World} (h : Below B a.drew w) : Below B a w := ⟨h.os, h.tape, h.output, h.size, h.block⟩
theorem below_step {a w w' : World} (h : Below w.heap.size w w') (k : Below a.heap.size a w) : Below a.heap.size a w' := below_trans k h
theorem info_parts' {e : TypeId} {z : Value} {s b : Nat} (h : (Tryd.prog.info? e).map (fun i => (i.zero, i.size, i.bytes)) = some (some z, s, b)) : ∃ i, Tryd.prog.info? e = some i ∧ i.zero = some z ∧ i.size = s ∧ i.bytes = b := by
  obtain ⟨i, hi, he⟩ := Option.map_eq_some_iff.1 h
  simp at he
  exact ⟨i, hi, he.1, he.2.1, he.2.2⟩
theorem own_slice {w : World} {base : Nat} {e : TypeId} {size n : Nat} {v : Value} {xs : List Value} (h : w.ownsRow base e size v n xs) : ∃ a c, v = .slice a n c := by
  rcases h.2 with ⟨rfl, h0⟩ | ⟨g, cap, cur, rfl, _⟩
  · exact ⟨none, 0, by rw [h0]⟩
  · exact ⟨_, _, rfl⟩
theorem own_set {w : World} {base : Nat} {e : TypeId} {size n : Nat} {v : Value} {xs : List Value} (h : w.ownsRow base e size v n xs) {p : Addr} (hp : p.block < base) (x : Value) : (w.setCell p x).ownsRow base e size v n xs :=
  h.kept (row := some p.block) ⟨rfl, rfl, rfl, by simp [World.setCell], fun k _ hk => heap_setCell_other w p k x fun e => hk (by rw [e])⟩ (by
    cases hb : v.ownBlock with
    | none => exact .inl rfl
    | some g => exact .inr fun e => by have := (h.lt g hb).1; injection e with e; omega)
theorem below_own {wr w w' : World} {base : Nat} {e : TypeId} {size n : Nat} {v : Value} {xs : List Value} (hO : wr.ownsRow base e size v n xs) (hb : Below wr.heap.size wr w) (hg : w.grownBy w' v.ownBlock) (hbase : base ≤ wr.heap.size) : Below base wr w' :=
  (hb.mono hbase).trans ⟨hg.os, hg.tape, hg.output, hg.size, fun k hk => hg.block k (by have := hb.size; omega) fun e => by have := (hO.lt k e.symm).1; omega⟩
theorem IsRows.take {α : Type} {k : Nat} {enc : α → List Value} {w : World} {a : Option Addr} {n c : Nat} {l : List α} (h : IsRows k enc w (.slice a n c) l) {m : Nat} (hm : m ≤ l.length) : IsRows k enc w (.slice a m c) (l.take m) := by
  obtain ⟨a', c', e, h1, h2, h3, h4⟩ := h
  injection e with e1 e2 e3
  subst e1 e3
  have hl : (l.take m).length = m := by rw [List.length_take]; omega
  refine ⟨a, c, by rw [hl], ?_, by omega, by omega, h4⟩
  rcases h1 with rfl | ⟨b, off, ha, hc⟩
  · exact .inl (by simp)
  · refine .inr ⟨b, off, ha, fun i x hi => hc i x ?_⟩
    have him : i < m := by have := (List.getElem?_eq_some_iff.1 hi).1; omega
    rwa [List.getElem?_take_of_lt him] at hi
theorem IsRows.drop {α : Type} {k : Nat} {enc : α → List Value} {w : World} {b off n c : Nat} {l : List α} (h : IsRows k enc w (.slice (some ⟨b, off, none⟩) n c) l) {m : Nat} (hm : m ≤ l.length) : IsRows k enc w (.slice (some ⟨b, off + m * k, none⟩) (l.length - m) (c - m)) (l.drop m) := by
  obtain ⟨a', c', e, h1, h2, h3, h4⟩ := h
  injection e with e1 e2 e3
  subst e1 e3
  have hl : (l.drop m).length = l.length - m := by rw [List.length_drop]
  refine ⟨_, _, by rw [hl], ?_, by omega, by omega, by omega⟩
  rcases h1 with rfl | ⟨b', off', ha, hc⟩
  · exact .inl (by simp)
  · injection ha with ha
    injection ha with e1 e2
    subst e1 e2
    refine .inr ⟨b, _, rfl, fun i x hi j u hj => ?_⟩
    rw [List.getElem?_drop] at hi
    have := hc _ x hi j u hj
    rwa [show off + (m + i) * k + j = off + m * k + i * k + j from by rw [Nat.add_mul]; omega] at this
theorem IsRows.of_block {α : Type} {k : Nat} {enc : α → List Value} {w w' : World} {g off n c : Nat} {l : List α} (h : IsRows k enc w (.slice (some ⟨g, off, none⟩) n c) l) (hg : w'.heap[g]? = w.heap[g]?) : IsRows k enc w' (.slice (some ⟨g, off, none⟩) n c) l := by
  obtain ⟨a', c', e, h1, h2⟩ := h
  refine ⟨a', c', e, ?_, h2⟩
  injection e with e1 e2 e3
  rcases h1 with h1 | ⟨b, off', ha, hc⟩
  · exact .inl h1
  · rw [← e1] at ha
    injection ha with ha
    injection ha with e4 e5
    subst e4 e5
    exact .inr ⟨g, off, e1.symm, fun i x hi j u hj => (World.cell?_of_block (a := ⟨g, _, none⟩) hg).trans (hc i x hi j u hj)⟩
/-- What a step writes into the frame, laid out. -/
theorem puts : (∀ (t : Array Value) (ds : List Deferred) (i : Nat) (v : Value), ({ tmps := t, defers := ds } : Act).put (some i) v = { tmps := t.setIfInBounds i v, defers := ds }) ∧ (∀ (t : Array Value) (ds : List Deferred) (v : Value), ({ tmps := t, defers := ds } : Act).put none v = { tmps := t, defers := ds }) ∧
    (∀ (l : List Value) (i : Nat) (v : Value), l.toArray.setIfInBounds i v = (l.set i v).toArray) ∧ (∀ (x : Value) (l : List Value) (v : Value), (x :: l).set 0 v = v :: l) ∧ (∀ (x : Value) (l : List Value) (n : Nat) (v : Value), (x :: l).set (n + 1) v = x :: l.set n v) :=
  ⟨fun _ _ _ _ => rfl, fun _ _ _ => rfl, fun _ _ _ => by simp, fun _ _ _ => rfl, fun _ _ _ _ => rfl⟩
section
variable {P : Program} {ops : Array Oper} {Q : Exit → Act → World → Prop} {md : Region.Mode} {S : World → Prop} {n : Nat}
/-- Whatever order is picked, what is assumed of the world holding behind all operations but those from the n-th on. -/
def AnyT (P : Program) (md : Region.Mode) (ops : Array Oper) (Q : Exit → Act → World → Prop) (S : World → Prop) (n : Nat) : Nat → Array Bool → Act → World → Prop
  | 0, done, a, w => Region.ready md ops done = [] ∧ Q .normal a w
  | f + 1, done, a, w => (Region.ready md ops done = [] → Q .normal a w) ∧ ∀ i ∈ Region.ready md ops done, wpOp P ops Q i (fun a' w' => (i < n → S w') ∧ AnyT P md ops Q S n f (done.setIfInBounds i true) a' w') a w
theorem any_of : ∀ (f : Nat) (done : Array Bool) (a : Act) (w : World), AnyT P md ops Q S n f done a w → wpAny P md ops Q f done a w
  | 0, _, _, _, h => h
  | f + 1, _, _, _, h => ⟨h.1, fun i hi => wpOp_mono (fun a' w' h' => any_of f _ a' w' h'.2) (h.2 i hi)⟩
/-- The operations from the n-th on wait for all that come before it. -/
def lateB (md : Region.Mode) (ops : Array Oper) (n : Nat) : Bool :=
  (List.range ops.size).all fun t => decide (t < n) || (List.range n).all fun i => match ops[t]? with | some o => o.after.any fun e => Region.binds md e && e.on == i | none => false
theorem late_waits (h : lateB md ops n = true) {t i : Nat} {o : Oper} (ho : ops[t]? = some o) (ht : n ≤ t) (hi : i < n) : ∃ e ∈ o.after, Region.binds md e = true ∧ e.on = i := by
  unfold lateB at h
  rw [List.all_eq_true] at h
  have h1 := h t (List.mem_range.2 (Array.getElem?_eq_some_iff.1 ho).1)
  rw [Bool.or_eq_true, decide_eq_true_eq, List.all_eq_true] at h1
  rcases h1 with h1 | h1
  · omega
  · have h2 := h1 i (List.mem_range.2 hi)
    rw [ho] at h2
    obtain ⟨e, he, hb⟩ := Array.any_eq_true'.1 h2
    rw [Bool.and_eq_true, beq_iff_eq] at hb
    exact ⟨e, he, hb⟩
theorem any_first (hl : lateB md ops n = true) {i : Nat} (hin : i < n) {oi : Oper} {v : Value} (hi : ops[i]? = some oi) (hsel : Region.noSelect ops = true)
    (hQ : ∀ c a w, Q (.panic c) (a.put oi.dst v) w → Q (.panic c) a w) (f : Nat) : ∀ (done : Array Bool) (a : Act) (w : World),
      (∀ j oj, ops[j]? = some oj → j ≠ i → done.getD j true = false → (∀ e ∈ oj.after, Region.binds md e = true → e.on ≠ i) → oi.apart ops oj = true) →
      i ∈ Region.ready md ops done → YieldsIf P ops S oi v a → S w → AnyT P md ops Q S n f (done.setIfInBounds i true) (a.put oi.dst v) w → AnyT P md ops Q S n (f + 1) done a w := by
  induction f with
  | zero =>
    intro done a w _ hr hy hS hx
    constructor
    · intro h; rw [h] at hr; cases hr
    · intro j hj
      rcases Nat.decEq j i with hne | he
      · have := ready_mono hj hne
        rw [hx.1] at this
        cases this
      · rw [he]; exact hy.wpOp hi hS ⟨fun _ => hS, hx⟩
  | succ f ih =>
    intro done a w hfree hr hy hS hx
    constructor
    · intro h; rw [h] at hr; cases hr
    · intro j hj
      rcases Nat.decEq j i with hne | he
      · have hstep := hx.2 j (ready_mono hj hne)
        obtain ⟨hju, oj, hoj, hall⟩ := mem_ready.1 hj
        have hfirst : done.getD i false = false := by
          have h0 := (mem_ready.1 hr).1
          rcases Nat.lt_or_ge i done.size with h' | h'
          · simp [h'] at h0 ⊢; exact h0
          · simp [Array.getElem?_eq_none h']
        have hno : ∀ e ∈ oj.after, Region.binds md e = true → e.on ≠ i := fun e he hb heq => by
          have := hall e he hb
          rw [heq, hfirst] at this
          cases this
        have hjn : j < n := by
          rcases Nat.lt_or_ge j n with h | h
          · exact h
          · obtain ⟨e, he, hb, hon⟩ := late_waits hl hoj h hin
            exact absurd hon (hno e he hb)
        have hsel' := Region.noSelect_spec hsel
        refine wpOp_mono (fun a' w' h3 => ?_) (wpOp_putIf hoj (hfree j oj hoj hne hju hno) (fun cs b => hsel' i oi cs b hi) (fun cs b => hsel' j oj cs b hoj) hQ hy hstep)
        obtain ⟨hy', hs', hx'⟩ := h3
        refine ⟨hs', ih _ a' w' (fun k ok hk hki hun hno' => hfree k ok hk hki ?_ hno') (ready_mono hr (Ne.symm hne)) hy' (hs' hjn) ?_⟩
        · rcases Nat.decEq j k with h | h
          · rwa [getD_set_ne true h] at hun
          · rw [← h]; exact hju
        · rw [Array.setIfInBounds_comm _ _ hne]; exact hx'
      · rw [he]; exact hy.wpOp hi hS ⟨fun _ => hS, hx⟩
theorem any_take (hl : lateB md ops n = true) {i : Nat} {oi : Oper} {v : Value} {f : Nat} {done : Array Bool} {a : Act} {w : World} (hi : ops[i]? = some oi) (hin : decide (i < n) = true)
    (hs : Region.noSelect ops = true) (hf : Region.free md ops done i = true) (hr : (Region.ready md ops done).contains i = true)
    (hQ : ∀ c a w, Q (.panic c) (a.put oi.dst v) w → Q (.panic c) a w) (hy : YieldsIf P ops S oi v a) (hS : S w) (h : AnyT P md ops Q S n f (done.setIfInBounds i true) (a.put oi.dst v) w) : AnyT P md ops Q S n (f + 1) done a w :=
  any_first hl (of_decide_eq_true hin) hi hs hQ f done a w (Region.free_spec hi hf) (by simpa using hr) hy hS h
/-- The one operation that may come up now. -/
theorem any_next {i : Nat} {o : Oper} {f : Nat} {done : Array Bool} {a : Act} {w : World} (hr : Region.ready md ops done = [i]) (ho : ops[i]? = some o) (hin : decide (i < n) = true)
    (h : ∀ K : Act → World → Prop, Shut (∀ a w, S w → (S w → AnyT P md ops Q S n f (done.setIfInBounds i true) a w) → K a w) → if Region.wanted o (yielded ops a.tmps) = true then Oper.wp P o a w K Q else K (a.put o.dst undef) w) : AnyT P md ops Q S n (f + 1) done a w := by
  refine ⟨fun h0 => (by rw [hr] at h0; cases h0), fun j hj => ?_⟩
  rw [hr] at hj
  obtain rfl := List.mem_singleton.1 hj
  exact wpOp_step ho fun K hK => h K fun a' w' hS hx => hK a' w' ⟨fun _ => hS, hx hS⟩
theorem any_late {i : Nat} {o : Oper} {f : Nat} {done : Array Bool} {a : Act} {w : World} (hr : Region.ready md ops done = [i]) (ho : ops[i]? = some o) (hin : decide (n ≤ i) = true)
    (h : ∀ K : Act → World → Prop, Shut (∀ a w, AnyT P md ops Q S n f (done.setIfInBounds i true) a w → K a w) → if Region.wanted o (yielded ops a.tmps) = true then Oper.wp P o a w K Q else K (a.put o.dst undef) w) : AnyT P md ops Q S n (f + 1) done a w := by
  refine ⟨fun h0 => (by rw [hr] at h0; cases h0), fun j hj => ?_⟩
  rw [hr] at hj
  obtain rfl := List.mem_singleton.1 hj
  exact wpOp_step ho fun K hK => h K fun a' w' hx => hK a' w' ⟨fun hlt => absurd hlt (by have := of_decide_eq_true hin; omega), hx⟩
theorem any_done {done : Array Bool} {a : Act} {w : World} (hr : Region.ready md ops done = []) (h : Q .normal a w) : ∀ f, AnyT P md ops Q S n f done a w
  | 0 => ⟨hr, h⟩
  | _ + 1 => ⟨fun _ => h, by rw [hr]; simp⟩
theorem wp_region_late (S : World → Prop) (n : Nat) {id : Nat} {a : Act} {w : World} (hm : P.follows .mixedOrders = true) (hS : S w.drew) (h : S w.drew → AnyT P .any ops Q S n ops.size (Array.replicate ops.size false) a w.drew) : (Code.region id ops true).wp P Q a w :=
  wp_region_any hm (any_of _ _ _ _ (h hS))
end
theorem any_two {P : Program} {ops : Array Oper} {Q : Exit → Act → World → Prop} {md : Region.Mode} {S : World → Prop} {n : Nat} {i j : Nat} {oi oj : Oper} {f : Nat} {done : Array Bool} {a : Act} {w : World} (hr : Region.ready md ops done = [i, j]) (hi : ops[i]? = some oi) (hj : ops[j]? = some oj) (hin : decide (i < n) = true) (hjn : decide (j < n) = true)
    (h1 : ∀ K : Act → World → Prop, Shut (∀ a w, S w → (S w → AnyT P md ops Q S n f (done.setIfInBounds i true) a w) → K a w) → if Region.wanted oi (yielded ops a.tmps) = true then Oper.wp P oi a w K Q else K (a.put oi.dst undef) w)
    (h2 : ∀ K : Act → World → Prop, Shut (∀ a w, S w → (S w → AnyT P md ops Q S n f (done.setIfInBounds j true) a w) → K a w) → if Region.wanted oj (yielded ops a.tmps) = true then Oper.wp P oj a w K Q else K (a.put oj.dst undef) w) : AnyT P md ops Q S n (f + 1) done a w := by
  refine ⟨fun h0 => (by rw [hr] at h0; cases h0), fun k hk => ?_⟩
  rw [hr] at hk
  rcases List.mem_cons.1 hk with rfl | hk
  · exact wpOp_step hi fun K hK => h1 K fun a' w' hS hx => hK a' w' ⟨fun _ => hS, hx hS⟩
  · obtain rfl := List.mem_singleton.1 hk
    exact wpOp_step hj fun K hK => h2 K fun a' w' hS hx => hK a' w' ⟨fun _ => hS, hx hS⟩
theorem any_three {P : Program} {ops : Array Oper} {Q : Exit → Act → World → Prop} {md : Region.Mode} {S : World → Prop} {n : Nat} {i j k : Nat} {oi oj ok : Oper} {f : Nat} {done : Array Bool} {a : Act} {w : World} (hr : Region.ready md ops done = [i, j, k]) (hi : ops[i]? = some oi) (hj : ops[j]? = some oj) (hk : ops[k]? = some ok) (hin : decide (i < n) = true) (hjn : decide (j < n) = true) (hkn : decide (k < n) = true)
    (h1 : ∀ K : Act → World → Prop, Shut (∀ a w, S w → (S w → AnyT P md ops Q S n f (done.setIfInBounds i true) a w) → K a w) → if Region.wanted oi (yielded ops a.tmps) = true then Oper.wp P oi a w K Q else K (a.put oi.dst undef) w)
    (h2 : ∀ K : Act → World → Prop, Shut (∀ a w, S w → (S w → AnyT P md ops Q S n f (done.setIfInBounds j true) a w) → K a w) → if Region.wanted oj (yielded ops a.tmps) = true then Oper.wp P oj a w K Q else K (a.put oj.dst undef) w)
    (h3 : ∀ K : Act → World → Prop, Shut (∀ a w, S w → (S w → AnyT P md ops Q S n f (done.setIfInBounds k true) a w) → K a w) → if Region.wanted ok (yielded ops a.tmps) = true then Oper.wp P ok a w K Q else K (a.put ok.dst undef) w) : AnyT P md ops Q S n (f + 1) done a w := by
  refine ⟨fun h0 => (by rw [hr] at h0; cases h0), fun t ht => ?_⟩
  rw [hr] at ht
  rcases List.mem_cons.1 ht with rfl | ht
  · exact wpOp_step hi fun K hK => h1 K fun a' w' hS hx => hK a' w' ⟨fun _ => hS, hx hS⟩
  · rcases List.mem_cons.1 ht with rfl | ht
    · exact wpOp_step hj fun K hK => h2 K fun a' w' hS hx => hK a' w' ⟨fun _ => hS, hx hS⟩
    · obtain rfl := List.mem_singleton.1 ht
      exact wpOp_step hk fun K hK => h3 K fun a' w' hS hx => hK a' w' ⟨fun _ => hS, hx hS⟩
theorem any_merge {P : Program} {ops : Array Oper} {Q : Exit → Act → World → Prop} {md : Region.Mode} {S : World → Prop} {n f0 : Nat} {d0 : Array Bool} {a0 : Act} {w0 : World} (G : Nat → Array Bool → Act → World → Prop) (h1 : ∀ f d a w, G f d a w → AnyT P md ops Q S n f d a w) (h2 : (∀ f d a w, G f d a w → AnyT P md ops Q S n f d a w) → AnyT P md ops Q S n f0 d0 a0 w0) : AnyT P md ops Q S n f0 d0 a0 w0 := h2 h1
theorem below_set' {a w : World} {p : Addr} {v : Value} (h : Below a.heap.size a w) (hp : a.heap.size ≤ p.block) : Below a.heap.size a (w.setCell p v) := h.setCell hp v
end Go.Proofs.YtdibijhaiaiifaaDoor
/- A region that draws its order, with a late store: what is assumed of the world holds until the store is done. -/
namespace Go.Proofs.YtdibijhaiaiifaaDoor
/-- None of the late operations is done. -/
def freshB (late : List Nat) (done : Array Bool) : Bool := late.all fun t => !(done.getD t false)
theorem fresh_set {late : List Nat} {done : Array Bool} {i : Nat} (h : freshB late done = true) (hi : late.contains i = false) : freshB late (done.setIfInBounds i true) = true := by
  unfold freshB at h ⊢
  rw [List.all_eq_true] at h ⊢
  intro t ht
  have h1 := h t ht
  have hne : i ≠ t := fun e => by subst e; simp at hi; exact hi ht
  rw [Array.getD_eq_getD_getElem?] at h1 ⊢
  rw [Array.getElem?_setIfInBounds_ne hne]
  exact h1
theorem fresh_of {late : List Nat} {done : Array Bool} {i : Nat} (h : freshB late (done.setIfInBounds i true) = true) (hi : late.contains i = false) : freshB late done = true := by
  unfold freshB at h ⊢
  rw [List.all_eq_true] at h ⊢
  intro t ht
  have h1 := h t ht
  have hne : i ≠ t := fun e => by subst e; simp at hi; exact hi ht
  rw [Array.getD_eq_getD_getElem?] at h1 ⊢
  rw [Array.getElem?_setIfInBounds_ne hne] at h1
  exact h1
theorem stale {late : List Nat} {done : Array Bool} {p : Prop} (h : freshB late done = false) : freshB late done = true → p := fun k => by rw [h] at k; cases k
section
variable {P : Program} {ops : Array Oper} {Q : Exit → Act → World → Prop} {md : Region.Mode} {S : World → Prop} {late : List Nat}
def AnyL (P : Program) (md : Region.Mode) (ops : Array Oper) (Q : Exit → Act → World → Prop) (S : World → Prop) (late : List Nat) : Nat → Array Bool → Act → World → Prop
  | 0, done, a, w => Region.ready md ops done = [] ∧ Q .normal a w
  | f + 1, done, a, w => (Region.ready md ops done = [] → Q .normal a w) ∧ ∀ i ∈ Region.ready md ops done, wpOp P ops Q i (fun a' w' => (freshB late (done.setIfInBounds i true) = true → S w') ∧ AnyL P md ops Q S late f (done.setIfInBounds i true) a' w') a w
theorem anyL_of : ∀ (f : Nat) (done : Array Bool) (a : Act) (w : World), AnyL P md ops Q S late f done a w → wpAny P md ops Q f done a w
  | 0, _, _, _, h => h
  | f + 1, _, _, _, h => ⟨h.1, fun i hi => wpOp_mono (fun a' w' h' => anyL_of f _ a' w' h'.2) (h.2 i hi)⟩
/-- All late operations wait for i. -/
def awaited (md : Region.Mode) (ops : Array Oper) (late : List Nat) (i : Nat) : Bool := late.all fun t => match ops[t]? with | some o => o.after.any fun e => Region.binds md e && e.on == i | none => true
theorem awaited_spec {i : Nat} (h : awaited md ops late i = true) {t : Nat} {o : Oper} (ho : ops[t]? = some o) (ht : late.contains t = true) : ∃ e ∈ o.after, Region.binds md e = true ∧ e.on = i := by
  unfold awaited at h
  rw [List.all_eq_true] at h
  have h2 := h t (by simpa using ht)
  rw [ho] at h2
  obtain ⟨e, he, hb⟩ := Array.any_eq_true'.1 h2
  rw [Bool.and_eq_true, beq_iff_eq] at hb
  exact ⟨e, he, hb⟩
/-- What is true of the world while an operation may be brought forward: S if it is asked for. -/
theorem anyL_first {S0 : World → Prop} {i : Nat} (hiL : late.contains i = false) (hl : (∀ w, S0 w) ∨ (awaited md ops late i = true ∧ ∀ w, S w → S0 w)) {oi : Oper} {v : Value} (hi : ops[i]? = some oi) (hsel : Region.noSelect ops = true)
    (hQ : ∀ c a w, Q (.panic c) (a.put oi.dst v) w → Q (.panic c) a w) (f : Nat) : ∀ (done : Array Bool) (a : Act) (w : World),
      (∀ j oj, ops[j]? = some oj → j ≠ i → done.getD j true = false → (∀ e ∈ oj.after, Region.binds md e = true → e.on ≠ i) → oi.apart ops oj = true) →
      i ∈ Region.ready md ops done → YieldsIf P ops S0 oi v a → (freshB late done = true → S w) → ((∀ w, S0 w) ∨ freshB late done = true) → AnyL P md ops Q S late f (done.setIfInBounds i true) (a.put oi.dst v) w → AnyL P md ops Q S late (f + 1) done a w := by
  have hS0 : ∀ (done : Array Bool) (w : World), (freshB late done = true → S w) → ((∀ w, S0 w) ∨ freshB late done = true) → S0 w := fun done w h1 h2 => by
    rcases h2 with h2 | h2
    · exact h2 w
    · rcases hl with hl | ⟨_, hl⟩
      · exact hl w
      · exact hl w (h1 h2)
  induction f with
  | zero =>
    intro done a w hfree hr hy hS hF hx
    constructor
    · intro h; rw [h] at hr; cases hr
    · intro j hj
      rcases Nat.decEq j i with hne | he
      · have := ready_mono hj hne
        rw [hx.1] at this
        cases this
      · rw [he]; exact hy.wpOp hi (hS0 done w hS hF) ⟨fun h => hS (fresh_of h hiL), hx⟩
  | succ f ih =>
    intro done a w hfree hr hy hS hF hx
    constructor
    · intro h; rw [h] at hr; cases hr
    · intro j hj
      rcases Nat.decEq j i with hne | he
      · have hstep := hx.2 j (ready_mono hj hne)
        obtain ⟨hju, oj, hoj, hall⟩ := mem_ready.1 hj
        have hfirst : done.getD i false = false := by
          have h0 := (mem_ready.1 hr).1
          rcases Nat.lt_or_ge i done.size with h' | h'
          · simp [h'] at h0 ⊢; exact h0
          · simp [Array.getElem?_eq_none h']
        have hno : ∀ e ∈ oj.after, Region.binds md e = true → e.on ≠ i := fun e he hb heq => by
          have := hall e he hb
          rw [heq, hfirst] at this
          cases this
        have hsel' := Region.noSelect_spec hsel
        refine wpOp_mono (fun a' w' h3 => ?_) (wpOp_putIf hoj (hfree j oj hoj hne hju hno) (fun cs b => hsel' i oi cs b hi) (fun cs b => hsel' j oj cs b hoj) hQ hy hstep)
        obtain ⟨hy', hs', hx'⟩ := h3
        have hs2 : freshB late (done.setIfInBounds j true) = true → S w' := fun h => hs' (by rw [Array.setIfInBounds_comm _ _ (Ne.symm hne)]; exact fresh_set h hiL)
        have hF2 : (∀ w, S0 w) ∨ freshB late (done.setIfInBounds j true) = true := by
          rcases hF with hF | hF
          · exact .inl hF
          · rcases hl with hl | ⟨hl, _⟩
            · exact .inl hl
            · refine .inr (fresh_set hF ?_)
              cases hc : late.contains j with
              | false => rfl
              | true =>
                obtain ⟨e, he, hb, hon⟩ := awaited_spec hl hoj hc
                exact absurd hon (hno e he hb)
        refine ⟨hs2, ih _ a' w' (fun k ok hk hki hun hno' => hfree k ok hk hki ?_ hno') (ready_mono hr (Ne.symm hne)) hy' hs2 hF2 ?_⟩
        · rcases Nat.decEq j k with h | h
          · rwa [getD_set_ne true h] at hun
          · rw [← h]; exact hju
        · rw [Array.setIfInBounds_comm _ _ hne]; exact hx'
      · rw [he]; exact hy.wpOp hi (hS0 done w hS hF) ⟨fun h => hS (fresh_of h hiL), hx⟩
/-- An operation that reads what S says. -/
theorem anyL_read {i : Nat} {oi : Oper} {v : Value} {f : Nat} {done : Array Bool} {a : Act} {w : World} (hi : ops[i]? = some oi) (hiL : late.contains i = false) (hl : awaited md ops late i = true)
    (hs : Region.noSelect ops = true) (hf : Region.free md ops done i = true) (hr : (Region.ready md ops done).contains i = true)
    (hQ : ∀ c a w, Q (.panic c) (a.put oi.dst v) w → Q (.panic c) a w) (hy : YieldsIf P ops S oi v a) (hF : freshB late done = true) (hS : S w) (h : AnyL P md ops Q S late f (done.setIfInBounds i true) (a.put oi.dst v) w) : AnyL P md ops Q S late (f + 1) done a w :=
  anyL_first (S0 := S) hiL (.inr ⟨hl, fun _ h => h⟩) hi hs hQ f done a w (Region.free_spec hi hf) (by simpa using hr) hy (fun _ => hS) (.inr hF) h
/-- An operation that reads no memory. -/
theorem anyL_take {i : Nat} {oi : Oper} {v : Value} {f : Nat} {done : Array Bool} {a : Act} {w : World} (hi : ops[i]? = some oi) (hiL : late.contains i = false)
    (hs : Region.noSelect ops = true) (hf : Region.free md ops done i = true) (hr : (Region.ready md ops done).contains i = true)
    (hQ : ∀ c a w, Q (.panic c) (a.put oi.dst v) w → Q (.panic c) a w) (hy : YieldsIf P ops (fun _ => True) oi v a) (hS : freshB late done = true → S w) (h : AnyL P md ops Q S late f (done.setIfInBounds i true) (a.put oi.dst v) w) : AnyL P md ops Q S late (f + 1) done a w :=
  anyL_first (S0 := fun _ => True) hiL (.inl fun _ => trivial) hi hs hQ f done a w (Region.free_spec hi hf) (by simpa using hr) hy hS (.inl fun _ => trivial) h
/-- The one operation that may come up now. -/
theorem anyL_next {i : Nat} {o : Oper} {f : Nat} {done : Array Bool} {a : Act} {w : World} (hr : Region.ready md ops done = [i]) (ho : ops[i]? = some o)
    (h : ∀ K : Act → World → Prop, Shut (∀ a w, (freshB late (done.setIfInBounds i true) = true → S w) → ((freshB late (done.setIfInBounds i true) = true → S w) → AnyL P md ops Q S late f (done.setIfInBounds i true) a w) → K a w) → if Region.wanted o (yielded ops a.tmps) = true then Oper.wp P o a w K Q else K (a.put o.dst undef) w) : AnyL P md ops Q S late (f + 1) done a w := by
  refine ⟨fun h0 => (by rw [hr] at h0; cases h0), fun j hj => ?_⟩
  rw [hr] at hj
  obtain rfl := List.mem_singleton.1 hj
  exact wpOp_step ho fun K hK => h K fun a' w' hS hx => hK a' w' ⟨hS, hx hS⟩
theorem anyL_two {i j : Nat} {oi oj : Oper} {f : Nat} {done : Array Bool} {a : Act} {w : World} (hr : Region.ready md ops done = [i, j]) (hi : ops[i]? = some oi) (hj : ops[j]? = some oj)
    (h1 : ∀ K : Act → World → Prop, Shut (∀ a w, (freshB late (done.setIfInBounds i true) = true → S w) → ((freshB late (done.setIfInBounds i true) = true → S w) → AnyL P md ops Q S late f (done.setIfInBounds i true) a w) → K a w) → if Region.wanted oi (yielded ops a.tmps) = true then Oper.wp P oi a w K Q else K (a.put oi.dst undef) w)
    (h2 : ∀ K : Act → World → Prop, Shut (∀ a w, (freshB late (done.setIfInBounds j true) = true → S w) → ((freshB late (done.setIfInBounds j true) = true → S w) → AnyL P md ops Q S late f (done.setIfInBounds j true) a w) → K a w) → if Region.wanted oj (yielded ops a.tmps) = true then Oper.wp P oj a w K Q else K (a.put oj.dst undef) w) : AnyL P md ops Q S late (f + 1) done a w := by
  refine ⟨fun h0 => (by rw [hr] at h0; cases h0), fun k hk => ?_⟩
  rw [hr] at hk
  rcases List.mem_cons.1 hk with rfl | hk
  · exact wpOp_step hi fun K hK => h1 K fun a' w' hS hx => hK a' w' ⟨hS, hx hS⟩
  · obtain rfl := List.mem_singleton.1 hk
    exact wpOp_step hj fun K hK => h2 K fun a' w' hS hx => hK a' w' ⟨hS, hx hS⟩
theorem anyL_three {i j k : Nat} {oi oj ok : Oper} {f : Nat} {done : Array Bool} {a : Act} {w : World} (hr : Region.ready md ops done = [i, j, k]) (hi : ops[i]? = some oi) (hj : ops[j]? = some oj) (hk : ops[k]? = some ok)
    (h1 : ∀ K : Act → World → Prop, Shut (∀ a w, (freshB late (done.setIfInBounds i true) = true → S w) → ((freshB late (done.setIfInBounds i true) = true → S w) → AnyL P md ops Q S late f (done.setIfInBounds i true) a w) → K a w) → if Region.wanted oi (yielded ops a.tmps) = true then Oper.wp P oi a w K Q else K (a.put oi.dst undef) w)
    (h2 : ∀ K : Act → World → Prop, Shut (∀ a w, (freshB late (done.setIfInBounds j true) = true → S w) → ((freshB late (done.setIfInBounds j true) = true → S w) → AnyL P md ops Q S late f (done.setIfInBounds j true) a w) → K a w) → if Region.wanted oj (yielded ops a.tmps) = true then Oper.wp P oj a w K Q else K (a.put oj.dst undef) w)
    (h3 : ∀ K : Act → World → Prop, Shut (∀ a w, (freshB late (done.setIfInBounds k true) = true → S w) → ((freshB late (done.setIfInBounds k true) = true → S w) → AnyL P md ops Q S late f (done.setIfInBounds k true) a w) → K a w) → if Region.wanted ok (yielded ops a.tmps) = true then Oper.wp P ok a w K Q else K (a.put ok.dst undef) w) : AnyL P md ops Q S late (f + 1) done a w := by
  refine ⟨fun h0 => (by rw [hr] at h0; cases h0), fun t ht => ?_⟩
  rw [hr] at ht
  rcases List.mem_cons.1 ht with rfl | ht
  · exact wpOp_step hi fun K hK => h1 K fun a' w' hS hx => hK a' w' ⟨hS, hx hS⟩
  · rcases List.mem_cons.1 ht with rfl | ht
    · exact wpOp_step hj fun K hK => h2 K fun a' w' hS hx => hK a' w' ⟨hS, hx hS⟩
    · obtain rfl := List.mem_singleton.1 ht
      exact wpOp_step hk fun K hK => h3 K fun a' w' hS hx => hK a' w' ⟨hS, hx hS⟩
theorem anyL_done {done : Array Bool} {a : Act} {w : World} (hr : Region.ready md ops done = []) (h : Q .normal a w) : ∀ f, AnyL P md ops Q S late f done a w
  | 0 => ⟨hr, h⟩
  | _ + 1 => ⟨fun _ => h, by rw [hr]; simp⟩
/-- Ways that meet again. -/
theorem anyL_merge {f0 : Nat} {d0 : Array Bool} {a0 : Act} {w0 : World} (G : Nat → Array Bool → Act → World → Prop) (h1 : ∀ f d a w, G f d a w → AnyL P md ops Q S late f d a w) (h2 : (∀ f d a w, G f d a w → AnyL P md ops Q S late f d a w) → AnyL P md ops Q S late f0 d0 a0 w0) : AnyL P md ops Q S late f0 d0 a0 w0 := h2 h1
theorem wp_region_L (S : World → Prop) (late : List Nat) {id : Nat} {a : Act} {w : World} (hm : P.follows .mixedOrders = true) (hS : S w.drew) (h : S w.drew → AnyL P .any ops Q S late ops.size (Array.replicate ops.size false) a w.drew) : (Code.region id ops true).wp P Q a w :=
  wp_region_any hm (anyL_of _ _ _ _ (h hS))
end
end Go.Proofs.YtdibijhaiaiifaaDoor
