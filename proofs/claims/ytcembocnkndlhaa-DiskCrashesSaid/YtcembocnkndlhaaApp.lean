/- append of a slice that reads as records onto a slice that the call owns: whatever its length, in a region that draws its order too. -/
import Derived.Test.YtcembocnkndlhaaMem
import Derived.Deep.Upon
namespace Go.Proofs.Ytcembocnkndlhaa
open Go.RowKit
theorem flat_at {α : Type} {k : Nat} {enc : α → List Value} : ∀ (l : List α), (∀ x ∈ l, (enc x).length = k) → ∀ (J : Nat) (u : Value), (l.flatMap enc)[J]? = some u → ∃ i x j, l[i]? = some x ∧ (enc x)[j]? = some u ∧ J = i * k + j
  | [], _, J, u, h => by simp at h
  | y :: r, hl, J, u, h => by
    have hy : (enc y).length = k := hl y (by simp)
    rw [List.flatMap_cons] at h
    by_cases hJ : J < k
    · rw [List.getElem?_append_left (by omega)] at h
      exact ⟨0, y, J, rfl, h, by simp⟩
    · rw [List.getElem?_append_right (by omega), hy] at h
      obtain ⟨i, x, j, hi, hj, e⟩ := flat_at r (fun z hz => hl z (by simp [hz])) _ u h
      exact ⟨i + 1, x, j, by simpa using hi, hj, by rw [Nat.add_mul]; omega⟩
theorem flat_len {α : Type} {k : Nat} {enc : α → List Value} : ∀ (l : List α), (∀ x ∈ l, (enc x).length = k) → (l.flatMap enc).length = l.length * k
  | [], _ => by simp
  | y :: r, hl => by
    rw [List.flatMap_cons, List.length_append, hl y (by simp), flat_len r (fun z hz => hl z (by simp [hz])), List.length_cons, Nat.add_mul]; omega
theorem run_append_rows {α : Type} {w : World} (enc : α → List Value) (t ty : TypeId) (base : Nat) (e : TypeId) (i : TypeInfo) (z : Value) (size bytes : Nat) (ht : Try.prog.underlying t = some (.slice e)) (hi : Try.prog.info? e = some i) (hz : i.zero = some z)
    (hsize : i.size = size) (hby : i.bytes = bytes) (hzs : z.cells.size = size) (hsz : 0 < size)
    (v : Value) (n : Nat) (xs : List Value) (hown : w.ownsRow base e size v n xs) (x : Value) (l : List α) (hx : IsRows size enc w x l) (hl : ∀ y ∈ l, (enc y).length = size) (h1 : ∀ y ∈ l, ∀ u ∈ enc y, u.oneCell' = true)
    (h63 : n + l.length ≤ maxLen) (hbytes : (n + l.length) * bytes ≤ 140737488355328) (hbase : base ≤ w.heap.size) :
    ∃ v' w', (Builtin.append_ #[t, t] ty #[v, x]).run Try.prog w = .ok v' w' ∧ w'.ownsRow base e size v' (n + l.length) (xs ++ l.flatMap enc) ∧ w.grownBy w' v.ownBlock ∧ (v'.ownBlock = v.ownBlock ∨ v'.ownBlock = some w.heap.size) := by
  obtain ⟨a, c, rfl, hr, hm⟩ := hx
  cases a with
  | none =>
    have hnil : l = [] := by
      rcases hr with h | ⟨b, off, ha, _⟩
      · exact h
      · cases ha
    subst hnil
    have hgr : w.grownBy w v.ownBlock := ⟨rfl, rfl, rfl, Nat.le_refl _, fun _ _ _ => rfl⟩
    have hs : Src Try.prog i.size t (.slice none 0 c) 0 [] w := ⟨.inl ⟨e, ht⟩, fun _ => by rfl, by rfl, by rfl, by simp, by simp⟩
    rcases hown.2 with ⟨rfl, h0⟩ | ⟨g, cap, cur, rfl, hb, hg, hnc, hcm, hcs, htake⟩
    · exact ⟨_, _, run_append_nothing w t t ty e i ht hi none 0 0 (Nat.le_refl _) _ hs, by simpa using hown, hgr, .inl rfl⟩
    · exact ⟨_, _, run_append_nothing w t t ty e i ht hi _ n cap hnc _ hs, by simpa using hown, hgr, .inl rfl⟩
  | some ad =>
    have hnews : ∀ J u, (l.flatMap enc)[J]? = some u → w.cell? (ad.add J) = some u := by
      intro J u hJ
      obtain ⟨i, y, j, hi, hj, rfl⟩ := flat_at l hl J u hJ
      obtain ⟨b, off, ha, hc⟩ := hr.at_ hi
      obtain rfl : ad = ⟨b, off, none⟩ := by simpa using ha
      have := hc i y hi j u hj
      have hadd : (⟨b, off, none⟩ : Addr).add (i * size + j) = ⟨b, off + i * size + j, none⟩ := by
        unfold Addr.add; split
        · rename_i h0; rw [Nat.add_assoc, h0]; simp
        · rw [Nat.add_assoc]
      rw [hadd]; exact this
    have h1' : ∀ u ∈ l.flatMap enc, u.oneCell' = true := fun u hu => by
      obtain ⟨y, hy, hu⟩ := List.mem_flatMap.1 hu
      exact h1 y hy u hu
    obtain ⟨v', w', hrun, h2, h3, -, h5⟩ := run_append_own_at (P := Try.prog) w base t ty e i z size bytes ht hi hz hsize hby hzs hsz v n xs hown ad l.length c (l.flatMap enc) (flat_len l hl) hnews h1' h63 hbytes hbase
    exact ⟨v', w', hrun, h2, h3, h5⟩
theorem wp_append_rows {α : Type} {w : World} {o : Oper} {a : Act} {K : Act → World → Prop} {Q : Exit → Act → World → Prop} (enc : α → List Value) (s y : Operand) (t : TypeId)
    (ho : o.op = .call { callee := .builtin .append, args := #[s, y], argTypes := #[t, t] }) (base : Nat) (e : TypeId) (i : TypeInfo) (z : Value) (size bytes : Nat) (ht : Try.prog.underlying t = some (.slice e)) (hi : Try.prog.info? e = some i) (hz : i.zero = some z)
    (hsize : i.size = size) (hby : i.bytes = bytes) (hzs : z.cells.size = size) (hsz : 0 < size)
    (v : Value) (n : Nat) (xs : List Value) (hs : a.eval s = v) (hown : w.ownsRow base e size v n xs) (x : Value) (l : List α) (hx' : a.eval y = x) (hx : IsRows size enc w x l) (hl : ∀ y ∈ l, (enc y).length = size) (h1 : ∀ y ∈ l, ∀ u ∈ enc y, u.oneCell' = true)
    (h63 : n + l.length ≤ maxLen) (hbytes : (n + l.length) * bytes ≤ 140737488355328) (hbase : base ≤ w.heap.size)
    (h : ∀ v' w', w'.ownsRow base e size v' (n + l.length) (xs ++ l.flatMap enc) → w.grownBy w' v.ownBlock → (v'.ownBlock = v.ownBlock ∨ v'.ownBlock = some w.heap.size) → K (a.put o.dst v') w') : o.wp Try.prog a w K Q := by
  obtain ⟨v', w', hr, h2, h3, h4⟩ := run_append_rows enc t o.type base e i z size bytes ht hi hz hsize hby hzs hsz v n xs hown x l hx hl h1 h63 hbytes hbase
  unfold Oper.wp execOp
  simp only [ho, resolve, invoke, builtin, Sem.run_bind, Sem.run_pure, Result.andThen_ok, List.map_toArray, List.map_cons, List.map_nil, hs, hx', hr]
  exact h v' w' h2 h3 h4
theorem wpList_append_rows {α : Type} {w : World} {ops : Array Oper} {rest : List Oper} {o : Oper} {a : Act} {Q : Exit → Act → World → Prop} (hgd : o.guard = none) (enc : α → List Value) (s y : Operand) (t : TypeId)
    (ho : o.op = .call { callee := .builtin .append, args := #[s, y], argTypes := #[t, t] }) (base : Nat) (e : TypeId) (i : TypeInfo) (z : Value) (size bytes : Nat) (ht : Try.prog.underlying t = some (.slice e)) (hi : Try.prog.info? e = some i) (hz : i.zero = some z)
    (hsize : i.size = size) (hby : i.bytes = bytes) (hzs : z.cells.size = size) (hsz : 0 < size)
    (v : Value) (n : Nat) (xs : List Value) (hs : a.eval s = v) (hown : w.ownsRow base e size v n xs) (x : Value) (l : List α) (hx' : a.eval y = x) (hx : IsRows size enc w x l) (hl : ∀ y ∈ l, (enc y).length = size) (h1 : ∀ y ∈ l, ∀ u ∈ enc y, u.oneCell' = true)
    (h63 : n + l.length ≤ maxLen) (hbytes : (n + l.length) * bytes ≤ 140737488355328) (hbase : base ≤ w.heap.size)
    (h : ∀ v' w', w'.ownsRow base e size v' (n + l.length) (xs ++ l.flatMap enc) → w.grownBy w' v.ownBlock → (v'.ownBlock = v.ownBlock ∨ v'.ownBlock = some w.heap.size) → wpList Try.prog ops Q rest (a.put o.dst v') w') : wpList Try.prog ops Q (o :: rest) a w :=
  wpList_plain hgd fun _ hK => wp_append_rows enc s y t ho base e i z size bytes ht hi hz hsize hby hzs hsz v n xs hs hown x l hx' hx hl h1 h63 hbytes hbase fun v' w' h2 h3 h4 => hK _ _ (h v' w' h2 h3 h4)
/-- In a region that draws its order, guarded or not. -/
theorem step_append_rows {α : Type} {w : World} {ops : Array Oper} {o : Oper} {a : Act} {K : Act → World → Prop} {Q : Exit → Act → World → Prop} {E : Prop} (hw : Region.wanted o (yielded ops a.tmps) = true) (enc : α → List Value) (s y : Operand) (t : TypeId)
    (ho : o.op = .call { callee := .builtin .append, args := #[s, y], argTypes := #[t, t] }) (base : Nat) (e : TypeId) (i : TypeInfo) (z : Value) (size bytes : Nat) (ht : Try.prog.underlying t = some (.slice e)) (hi : Try.prog.info? e = some i) (hz : i.zero = some z)
    (hsize : i.size = size) (hby : i.bytes = bytes) (hzs : z.cells.size = size) (hsz : 0 < size)
    (v : Value) (n : Nat) (xs : List Value) (hs : a.eval s = v) (hown : w.ownsRow base e size v n xs) (x : Value) (l : List α) (hx' : a.eval y = x) (hx : IsRows size enc w x l) (hl : ∀ y ∈ l, (enc y).length = size) (h1 : ∀ y ∈ l, ∀ u ∈ enc y, u.oneCell' = true)
    (h63 : n + l.length ≤ maxLen) (hbytes : (n + l.length) * bytes ≤ 140737488355328) (hbase : base ≤ w.heap.size)
    (h : ∀ v' w', w'.ownsRow base e size v' (n + l.length) (xs ++ l.flatMap enc) → w.grownBy w' v.ownBlock → (v'.ownBlock = v.ownBlock ∨ v'.ownBlock = some w.heap.size) → K (a.put o.dst v') w') : if Region.wanted o (yielded ops a.tmps) = true then Oper.wp Try.prog o a w K Q else E := by
  rw [if_pos hw]
  exact wp_append_rows enc s y t ho base e i z size bytes ht hi hz hsize hby hzs hsz v n xs hs hown x l hx' hx hl h1 h63 hbytes hbase h
theorem own_keep {w w' : World} {base : Nat} {e : TypeId} {size n : Nat} {v : Value} {xs : List Value} (h : w.ownsRow base e size v n xs) (hb : Below w.heap.size w w') : w'.ownsRow base e size v n xs :=
  h.kept (row := none) ⟨hb.os, hb.tape, hb.output, hb.size, fun i hi _ => hb.block i hi⟩ (by cases hv : v.ownBlock <;> simp)
theorem own_succ {W : World} {base : Nat} {e : TypeId} {size : Nat} {v : Value} {k : Nat} {xs : List Value} (h : W.ownsRow base e size v (k + 1) xs) : ∃ g cap, v = .slice (some ⟨g, 0, none⟩) (k + 1) cap ∧ base ≤ g := by
  rcases h.2 with ⟨_, h0⟩ | ⟨g, cap, _, rfl, hg, _⟩
  · omega
  · exact ⟨g, cap, rfl, hg⟩
/-- Where a slice's own row lies behind an append. -/
def Moved (w : World) (v v' : Value) : Prop := v'.ownBlock = v.ownBlock ∨ v'.ownBlock = some w.heap.size
end Go.Proofs.Ytcembocnkndlhaa
