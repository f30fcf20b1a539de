/- Slices of pairs and of names that a call owns; parts of slices. -/
import Derived.Test.YtkjlflmcojmfgaaDoorPush
import Derived.Test.YtkjlflmcojmfgaaDoorTwo
import Derived.Deep.Upon
namespace Go.Proofs.YtkjlflmcojmfgaaDoor
open Go.RowKit
theorem flat_at {α : Type} {k : Nat} {enc : α → List Value} : ∀ (l : List α), (∀ x ∈ l, (enc x).length = k) → ∀ (J : Nat) (u : Value), (l.flatMap enc)[J]? = some u → ∃ i x j, l[i]? = some x ∧ (enc x)[j]? = some u ∧ J = i * k + j
  | [], _, J, u, h => by simp at h
  | y :: r, hl, J, u, h => by
    have hy : (enc y).length = k := hl y (by simp)
    rw [List.flatMap_cons] at h
    by_cases hJ : J < k
    · rw [List.getElem?_append_left (by omega)] at h
      exact ⟨0, y, J, rfl, h, by simp⟩
    · rw [List.getElem?_append_right (by omega), hy] at h
      obtain ⟨i, x, j, hi, hj, e⟩ := flat_at r (fun z hz => hl z (by simp [hz])) _ u h
      exact ⟨i + 1, x, j, by simpa using hi, hj, by rw [Nat.add_mul]; omega⟩
theorem flat_len {α : Type} {k : Nat} {enc : α → List Value} : ∀ (l : List α), (∀ x ∈ l, (enc x).length = k) → (l.flatMap enc).length = l.length * k
  | [], _ => by simp
  | y :: r, hl => by
    rw [List.flatMap_cons, List.length_append, hl y (by simp), flat_len r (fun z hz => hl z (by simp [hz])), List.length_cons, Nat.add_mul]; omega
theorem run_append_rows {α : Type} {w : World} (enc : α → List Value) (t ty : TypeId) (base : Nat) (e : TypeId) (i : TypeInfo) (z : Value) (size bytes : Nat) (ht : Tryd.prog.underlying t = some (.slice e)) (hi : Tryd.prog.info? e = some i) (hz : i.zero = some z)
    (hsize : i.size = size) (hby : i.bytes = bytes) (hzs : z.cells.size = size) (hsz : 0 < size)
    (v : Value) (n : Nat) (xs : List Value) (hown : w.ownsRow base e size v n xs) (x : Value) (l : List α) (hx : IsRows size enc w x l) (hl : ∀ y ∈ l, (enc y).length = size) (h1 : ∀ y ∈ l, ∀ u ∈ enc y, u.oneCell' = true)
    (h63 : n + l.length ≤ maxLen) (hbytes : (n + l.length) * bytes ≤ 140737488355328) (hbase : base ≤ w.heap.size) :
    ∃ v' w', (Builtin.append_ #[t, t] ty #[v, x]).run Tryd.prog w = .ok v' w' ∧ w'.ownsRow base e size v' (n + l.length) (xs ++ l.flatMap enc) ∧ w.grownBy w' v.ownBlock ∧ (v'.ownBlock = v.ownBlock ∨ v'.ownBlock = some w.heap.size) := by
  obtain ⟨a, c, rfl, hr, hm⟩ := hx
  cases a with
  | none =>
    have hnil : l = [] := by
      rcases hr with h | ⟨b, off, ha, _⟩
      · exact h
      · cases ha
    subst hnil
    have hgr : w.grownBy w v.ownBlock := ⟨rfl, rfl, rfl, Nat.le_refl _, fun _ _ _ => rfl⟩
    have hs : Src Tryd.prog i.size t (.slice none 0 c) 0 [] w := ⟨.inl ⟨e, ht⟩, fun _ => by rfl, by rfl, by rfl, by simp, by simp⟩
    rcases hown.2 with ⟨rfl, h0⟩ | ⟨g, cap, cur, rfl, hb, hg, hnc, hcm, hcs, htake⟩
    · exact ⟨_, _, run_append_nothing w t t ty e i ht hi none 0 0 (Nat.le_refl _) _ hs, by simpa using hown, hgr, .inl rfl⟩
    · exact ⟨_, _, run_append_nothing w t t ty e i ht hi _ n cap hnc _ hs, by simpa using hown, hgr, .inl rfl⟩
  | some ad =>
    have hnews : ∀ J u, (l.flatMap enc)[J]? = some u → w.cell? (ad.add J) = some u := by
      intro J u hJ
      obtain ⟨i, y, j, hi, hj, rfl⟩ := flat_at l hl J u hJ
      obtain ⟨b, off, ha, hc⟩ := hr.at_ hi
      obtain rfl : ad = ⟨b, off, none⟩ := by simpa using ha
      have := hc i y hi j u hj
      have hadd : (⟨b, off, none⟩ : Addr).add (i * size + j) = ⟨b, off + i * size + j, none⟩ := by
        unfold Addr.add; split
        · rename_i h0; rw [Nat.add_assoc, h0]; simp
        · rw [Nat.add_assoc]
      rw [hadd]; exact this
    have h1' : ∀ u ∈ l.flatMap enc, u.oneCell' = true := fun u hu => by
      obtain ⟨y, hy, hu⟩ := List.mem_flatMap.1 hu
      exact h1 y hy u hu
    obtain ⟨v', w', hrun, h2, h3, -, h5⟩ := run_append_own_at (P := Tryd.prog) w base t ty e i z size bytes ht hi hz hsize hby hzs hsz v n xs hown ad l.length c (l.flatMap enc) (flat_len l hl) hnews h1' h63 hbytes hbase
    exact ⟨v', w', hrun, h2, h3, h5⟩
theorem wp_append_rows {α : Type} {w : World} {o : Oper} {a : Act} {K : Act → World → Prop} {Q : Exit → Act → World → Prop} (enc : α → List Value) (s y : Operand) (t : TypeId)
    (ho : o.op = .call { callee := .builtin .append, args := #[s, y], argTypes := #[t, t] }) (base : Nat) (e : TypeId) (i : TypeInfo) (z : Value) (size bytes : Nat) (ht : Tryd.prog.underlying t = some (.slice e)) (hi : Tryd.prog.info? e = some i) (hz : i.zero = some z)
    (hsize : i.size = size) (hby : i.bytes = bytes) (hzs : z.cells.size = size) (hsz : 0 < size)
    (v : Value) (n : Nat) (xs : List Value) (hs : a.eval s = v) (hown : w.ownsRow base e size v n xs) (x : Value) (l : List α) (hx' : a.eval y = x) (hx : IsRows size enc w x l) (hl : ∀ y ∈ l, (enc y).length = size) (h1 : ∀ y ∈ l, ∀ u ∈ enc y, u.oneCell' = true)
    (h63 : n + l.length ≤ maxLen) (hbytes : (n + l.length) * bytes ≤ 140737488355328) (hbase : base ≤ w.heap.size)
    (h : ∀ v' w', w'.ownsRow base e size v' (n + l.length) (xs ++ l.flatMap enc) → w.grownBy w' v.ownBlock → (v'.ownBlock = v.ownBlock ∨ v'.ownBlock = some w.heap.size) → K (a.put o.dst v') w') : o.wp Tryd.prog a w K Q := by
  obtain ⟨v', w', hr, h2, h3, h4⟩ := run_append_rows enc t o.type base e i z size bytes ht hi hz hsize hby hzs hsz v n xs hown x l hx hl h1 h63 hbytes hbase
  unfold Oper.wp execOp
  simp only [ho, resolve, invoke, builtin, Sem.run_bind, Sem.run_pure, Result.andThen_ok, List.map_toArray, List.map_cons, List.map_nil, hs, hx', hr]
  exact h v' w' h2 h3 h4
theorem wpList_append_rows {α : Type} {w : World} {ops : Array Oper} {rest : List Oper} {o : Oper} {a : Act} {Q : Exit → Act → World → Prop} (hgd : o.guard = none) (enc : α → List Value) (s y : Operand) (t : TypeId)
    (ho : o.op = .call { callee := .builtin .append, args := #[s, y], argTypes := #[t, t] }) (base : Nat) (e : TypeId) (i : TypeInfo) (z : Value) (size bytes : Nat) (ht : Tryd.prog.underlying t = some (.slice e)) (hi : Tryd.prog.info? e = some i) (hz : i.zero = some z)
    (hsize : i.size = size) (hby : i.bytes = bytes) (hzs : z.cells.size = size) (hsz : 0 < size)
    (v : Value) (n : Nat) (xs : List Value) (hs : a.eval s = v) (hown : w.ownsRow base e size v n xs) (x : Value) (l : List α) (hx' : a.eval y = x) (hx : IsRows size enc w x l) (hl : ∀ y ∈ l, (enc y).length = size) (h1 : ∀ y ∈ l, ∀ u ∈ enc y, u.oneCell' = true)
    (h63 : n + l.length ≤ maxLen) (hbytes : (n + l.length) * bytes ≤ 140737488355328) (hbase : base ≤ w.heap.size)
    (h : ∀ v' w', w'.ownsRow base e size v' (n + l.length) (xs ++ l.flatMap enc) → w.grownBy w' v.ownBlock → (v'.ownBlock = v.ownBlock ∨ v'.ownBlock = some w.heap.size) → wpList Tryd.prog ops Q rest (a.put o.dst v') w') : wpList Tryd.prog ops Q (o :: rest) a w :=
  wpList_plain hgd fun _ hK => wp_append_rows enc s y t ho base e i z size bytes ht hi hz hsize hby hzs hsz v n xs hs hown x l hx' hx hl h1 h63 hbytes hbase fun v' w' h2 h3 h4 => hK _ _ (h v' w' h2 h3 h4)
/-- In a region that draws its order, guarded or not. -/
theorem step_append_rows {α : Type} {w : World} {ops : Array Oper} {o : Oper} {a : Act} {K : Act → World → Prop} {Q : Exit → Act → World → Prop} {E : Prop} (hw : Region.wanted o (yielded ops a.tmps) = true) (enc : α → List Value) (s y : Operand) (t : TypeId)
    (ho : o.op = .call { callee := .builtin .append, args := #[s, y], argTypes := #[t, t] }) (base : Nat) (e : TypeId) (i : TypeInfo) (z : Value) (size bytes : Nat) (ht : Tryd.prog.underlying t = some (.slice e)) (hi : Tryd.prog.info? e = some i) (hz : i.zero = some z)
    (hsize : i.size = size) (hby : i.bytes = bytes) (hzs : z.cells.size = size) (hsz : 0 < size)
    (v : Value) (n : Nat) (xs : List Value) (hs : a.eval s = v) (hown : w.ownsRow base e size v n xs) (x : Value) (l : List α) (hx' : a.eval y = x) (hx : IsRows size enc w x l) (hl : ∀ y ∈ l, (enc y).length = size) (h1 : ∀ y ∈ l, ∀ u ∈ enc y, u.oneCell' = true)
    (h63 : n + l.length ≤ maxLen) (hbytes : (n + l.length) * bytes ≤ 140737488355328) (hbase : base ≤ w.heap.size)
    (h : ∀ v' w', w'.ownsRow base e size v' (n + l.length) (xs ++ l.flatMap enc) → w.grownBy w' v.ownBlock → (v'.ownBlock = v.ownBlock ∨ v'.ownBlock = some w.heap.size) → K (a.put o.dst v') w') : if Region.wanted o (yielded ops a.tmps) = true then Oper.wp Tryd.prog o a w K Q else E := by
  rw [if_pos hw]
  exact wp_append_rows enc s y t ho base e i z size bytes ht hi hz hsize hby hzs hsz v n xs hs hown x l hx' hx hl h1 h63 hbytes hbase h
theorem own_succ {W : World} {base : Nat} {e : TypeId} {size : Nat} {v : Value} {k : Nat} {xs : List Value} (h : W.ownsRow base e size v (k + 1) xs) : ∃ g cap, v = .slice (some ⟨g, 0, none⟩) (k + 1) cap ∧ base ≤ g := by
  rcases h.2 with ⟨_, h0⟩ | ⟨g, cap, _, rfl, hg, _⟩
  · omega
  · exact ⟨g, cap, rfl, hg⟩

theorem info39 : (Tryd.prog.info? 39).map (fun i => (i.zero, i.size, i.bytes)) = some (some (.agg #[.int .i64 0, .int .i64 0]), 2, 16) := by kernel_rfl
theorem info9 : (Tryd.prog.info? 9).map (fun i => (i.zero, i.size, i.bytes)) = some (some (.string ⟨#[]⟩), 1, 16) := by kernel_rfl
def OwnC (w : World) (base : Nat) (v : Value) (l : List (Int × Int)) : Prop := w.ownsRow base 39 2 v l.length (l.flatMap encC)
def OwnS (w : World) (base : Nat) (v : Value) (l : List Nm) : Prop := w.ownsRow base 9 1 v l.length (l.flatMap encS)
theorem OwnC.keep {w w' : World} {base : Nat} {v : Value} {l : List (Int × Int)} (h : OwnC w base v l) (hb : Below w.heap.size w w') : OwnC w' base v l := own_keep h hb
theorem OwnS.keep {w w' : World} {base : Nat} {v : Value} {l : List Nm} (h : OwnS w base v l) (hb : Below w.heap.size w w') : OwnS w' base v l := own_keep h hb
theorem OwnC.is {w : World} {base : Nat} {v : Value} {l : List (Int × Int)} (h : OwnC w base v l) (hm : l.length ≤ 9223372036854775807) : IsCovers w v l := IsRows.of_owns (base := base) (e := 39) h (fun _ _ => rfl) hm
theorem OwnS.is {w : World} {base : Nat} {v : Value} {l : List Nm} (h : OwnS w base v l) (hm : l.length ≤ 9223372036854775807) : IsNames w v l := IsRows.of_owns (base := base) (e := 9) h (fun _ _ => rfl) hm
theorem own_slice {w : World} {base : Nat} {e : TypeId} {size n : Nat} {v : Value} {xs : List Value} (h : w.ownsRow base e size v n xs) : ∃ a c, v = .slice a n c := by
  rcases h.2 with ⟨rfl, h0⟩ | ⟨g, cap, cur, rfl, _⟩
  · exact ⟨none, 0, by rw [h0]⟩
  · exact ⟨_, _, rfl⟩
theorem OwnC.lit (w : World) : OwnC (w.alloc (.cells #[] 39)) w.heap.size (.slice (some ⟨w.heap.size, 0, none⟩) 0 0) [] := World.ownsRow_lit w #[] 0 (Nat.le_refl _) (by decide) rfl
theorem OwnS.lit (w : World) : OwnS (w.alloc (.cells #[] 9)) w.heap.size (.slice (some ⟨w.heap.size, 0, none⟩) 0 0) [] := World.ownsRow_lit w #[] 0 (Nat.le_refl _) (by decide) rfl
theorem own_set {w : World} {base : Nat} {e : TypeId} {size n : Nat} {v : Value} {xs : List Value} (h : w.ownsRow base e size v n xs) {p : Addr} (hp : p.block < base) (x : Value) : (w.setCell p x).ownsRow base e size v n xs :=
  h.kept (row := some p.block) ⟨rfl, rfl, rfl, by simp [World.setCell], fun k _ hk => heap_setCell_other w p k x fun e => hk (by rw [e])⟩ (by
    cases hb : v.ownBlock with
    | none => exact .inl rfl
    | some g => exact .inr fun e => by have := (h.lt g hb).1; injection e with e; omega)
theorem OwnC.set {w : World} {base : Nat} {v : Value} {l : List (Int × Int)} (h : OwnC w base v l) {p : Addr} (hp : p.block < base) (x : Value) : OwnC (w.setCell p x) base v l := own_set h hp x
theorem OwnS.set {w : World} {base : Nat} {v : Value} {l : List Nm} (h : OwnS w base v l) {p : Addr} (hp : p.block < base) (x : Value) : OwnS (w.setCell p x) base v l := own_set h hp x
theorem below_own {wr w w' : World} {base : Nat} {e : TypeId} {size n : Nat} {v : Value} {xs : List Value} (hO : wr.ownsRow base e size v n xs) (hb : Below wr.heap.size wr w) (hg : w.grownBy w' v.ownBlock) (hbase : base ≤ wr.heap.size) : Below base wr w' :=
  (hb.mono hbase).trans ⟨hg.os, hg.tape, hg.output, hg.size, fun k hk => hg.block k (by have := hb.size; omega) fun e => by have := (hO.lt k e.symm).1; omega⟩
theorem step_catC {wr w : World} {ops : Array Oper} {o : Oper} {a : Act} {K : Act → World → Prop} {Q : Exit → Act → World → Prop} {E : Prop} (hw : Region.wanted o (yielded ops a.tmps) = true) (s y : Operand) (ho : o.op = .call { callee := .builtin .append, args := #[s, y], argTypes := #[23, 23] })
    {base : Nat} {v x : Value} {l m : List (Int × Int)} (hs : a.eval s = v) (hy : a.eval y = x) (hO : OwnC wr base v l) (hb : Below wr.heap.size wr w) (hm : IsCovers w x m) (hbase : base ≤ wr.heap.size) (hL : l.length ≤ 1000000) (hM : m.length ≤ 1000000)
    (h : ∀ p c w', OwnC w' base (.slice p (l ++ m).length c) (l ++ m) → Below base wr w' → K (a.put o.dst (.slice p (l ++ m).length c)) w') : if Region.wanted o (yielded ops a.tmps) = true then Oper.wp Tryd.prog o a w K Q else E := by
  obtain ⟨i0, hi, hz0, hz1, hz2⟩ := info_parts' info39
  have hown : w.ownsRow base 39 2 v l.length (l.flatMap encC) := own_keep hO hb
  refine step_append_rows hw encC s y 23 ho base 39 i0 _ 2 16 Tryd.underlying23 hi hz0 hz1 hz2 rfl (by decide) v l.length _ hs hown x m hy hm (fun _ _ => rfl) (fun y _ u hu => by unfold encC at hu; simp at hu; rcases hu with rfl | rfl <;> rfl) (by unfold maxLen; omega) (by omega) (by have := hb.size; omega) ?_
  intro v' w' hown' hg _
  have h2 : OwnC w' base v' (l ++ m) := by unfold OwnC; rw [List.length_append, List.flatMap_append]; exact hown'
  obtain ⟨p, c, rfl⟩ := own_slice h2
  exact h p c w' h2 (below_own hO hb hg hbase)
theorem wpList_catC {wr w : World} {ops : Array Oper} {rest : List Oper} {o : Oper} {a : Act} {Q : Exit → Act → World → Prop} (hgd : o.guard = none) (s y : Operand) (ho : o.op = .call { callee := .builtin .append, args := #[s, y], argTypes := #[23, 23] })
    {base : Nat} {v x : Value} {l m : List (Int × Int)} (hs : a.eval s = v) (hy : a.eval y = x) (hO : OwnC wr base v l) (hb : Below wr.heap.size wr w) (hm : IsCovers w x m) (hbase : base ≤ wr.heap.size) (hL : l.length ≤ 1000000) (hM : m.length ≤ 1000000)
    (h : ∀ p c w', OwnC w' base (.slice p (l ++ m).length c) (l ++ m) → Below base wr w' → wpList Tryd.prog ops Q rest (a.put o.dst (.slice p (l ++ m).length c)) w') : wpList Tryd.prog ops Q (o :: rest) a w := by
  obtain ⟨i0, hi, hz0, hz1, hz2⟩ := info_parts' info39
  have hown : w.ownsRow base 39 2 v l.length (l.flatMap encC) := own_keep hO hb
  refine wpList_append_rows hgd encC s y 23 ho base 39 i0 _ 2 16 Tryd.underlying23 hi hz0 hz1 hz2 rfl (by decide) v l.length _ hs hown x m hy hm (fun _ _ => rfl) (fun y _ u hu => by unfold encC at hu; simp at hu; rcases hu with rfl | rfl <;> rfl) (by unfold maxLen; omega) (by omega) (by have := hb.size; omega) ?_
  intro v' w' hown' hg _
  have h2 : OwnC w' base v' (l ++ m) := by unfold OwnC; rw [List.length_append, List.flatMap_append]; exact hown'
  obtain ⟨p, c, rfl⟩ := own_slice h2
  exact h p c w' h2 (below_own hO hb hg hbase)
theorem step_catS {wr w : World} {ops : Array Oper} {o : Oper} {a : Act} {K : Act → World → Prop} {Q : Exit → Act → World → Prop} {E : Prop} (hw : Region.wanted o (yielded ops a.tmps) = true) (s y : Operand) (ho : o.op = .call { callee := .builtin .append, args := #[s, y], argTypes := #[22, 22] })
    {base : Nat} {v x : Value} {l m : List Nm} (hs : a.eval s = v) (hy : a.eval y = x) (hO : OwnS wr base v l) (hb : Below wr.heap.size wr w) (hm : IsNames w x m) (hbase : base ≤ wr.heap.size) (hL : l.length ≤ 1000000) (hM : m.length ≤ 1000000)
    (h : ∀ p c w', OwnS w' base (.slice p (l ++ m).length c) (l ++ m) → Below base wr w' → K (a.put o.dst (.slice p (l ++ m).length c)) w') : if Region.wanted o (yielded ops a.tmps) = true then Oper.wp Tryd.prog o a w K Q else E := by
  obtain ⟨i0, hi, hz0, hz1, hz2⟩ := info_parts' info9
  have hown : w.ownsRow base 9 1 v l.length (l.flatMap encS) := own_keep hO hb
  refine step_append_rows hw encS s y 22 ho base 9 i0 _ 1 16 Tryd.underlying22 hi hz0 hz1 hz2 rfl (by decide) v l.length _ hs hown x m hy hm (fun _ _ => rfl) (fun y _ u hu => by unfold encS at hu; simp at hu; subst hu; rfl) (by unfold maxLen; omega) (by omega) (by have := hb.size; omega) ?_
  intro v' w' hown' hg _
  have h2 : OwnS w' base v' (l ++ m) := by unfold OwnS; rw [List.length_append, List.flatMap_append]; exact hown'
  obtain ⟨p, c, rfl⟩ := own_slice h2
  exact h p c w' h2 (below_own hO hb hg hbase)
theorem IsRows.take {α : Type} {k : Nat} {enc : α → List Value} {w : World} {a : Option Addr} {n c : Nat} {l : List α} (h : IsRows k enc w (.slice a n c) l) {m : Nat} (hm : m ≤ l.length) : IsRows k enc w (.slice a m c) (l.take m) := by
  obtain ⟨a', c', e, h1, h2, h3, h4⟩ := h
  injection e with e1 e2 e3
  subst e1 e3
  have hl : (l.take m).length = m := by rw [List.length_take]; omega
  refine ⟨a, c, by rw [hl], ?_, by omega, by omega, h4⟩
  rcases h1 with rfl | ⟨b, off, ha, hc⟩
  · exact .inl (by simp)
  · refine .inr ⟨b, off, ha, fun i x hi => hc i x ?_⟩
    have him : i < m := by have := (List.getElem?_eq_some_iff.1 hi).1; omega
    rwa [List.getElem?_take_of_lt him] at hi
theorem IsRows.drop {α : Type} {k : Nat} {enc : α → List Value} {w : World} {b off n c : Nat} {l : List α} (h : IsRows k enc w (.slice (some ⟨b, off, none⟩) n c) l) {m : Nat} (hm : m ≤ l.length) : IsRows k enc w (.slice (some ⟨b, off + m * k, none⟩) (l.length - m) (c - m)) (l.drop m) := by
  obtain ⟨a', c', e, h1, h2, h3, h4⟩ := h
  injection e with e1 e2 e3
  subst e1 e3
  have hl : (l.drop m).length = l.length - m := by rw [List.length_drop]
  refine ⟨_, _, by rw [hl], ?_, by omega, by omega, by omega⟩
  rcases h1 with rfl | ⟨b', off', ha, hc⟩
  · exact .inl (by simp)
  · injection ha with ha
    injection ha with e1 e2
    subst e1 e2
    refine .inr ⟨b, _, rfl, fun i x hi j u hj => ?_⟩
    rw [List.getElem?_drop] at hi
    have := hc _ x hi j u hj
    rwa [show off + (m + i) * k + j = off + m * k + i * k + j from by rw [Nat.add_mul]; omega] at this
theorem IsRows.of_block {α : Type} {k : Nat} {enc : α → List Value} {w w' : World} {g off n c : Nat} {l : List α} (h : IsRows k enc w (.slice (some ⟨g, off, none⟩) n c) l) (hg : w'.heap[g]? = w.heap[g]?) : IsRows k enc w' (.slice (some ⟨g, off, none⟩) n c) l := by
  obtain ⟨a', c', e, h1, h2⟩ := h
  refine ⟨a', c', e, ?_, h2⟩
  injection e with e1 e2 e3
  rcases h1 with h1 | ⟨b, off', ha, hc⟩
  · exact .inl h1
  · rw [← e1] at ha
    injection ha with ha
    injection ha with e4 e5
    subst e4 e5
    exact .inr ⟨g, off, e1.symm, fun i x hi j u hj => (World.cell?_of_block (a := ⟨g, _, none⟩) hg).trans (hc i x hi j u hj)⟩
end Go.Proofs.YtkjlflmcojmfgaaDoor
