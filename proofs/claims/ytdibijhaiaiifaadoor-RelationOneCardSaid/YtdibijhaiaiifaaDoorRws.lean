/- Rows and relations in memory; slices that a call owns; append. -/
import Derived.Test.YtdibijhaiaiifaaDoorXc
namespace Go.Proofs.YtdibijhaiaiifaaDoor
open Go.RowKit
/-! ### slices that a call owns -/
def Owns {α : Type} (k : Nat) (e : TypeId) (enc : α → List Value) (w : World) (base : Nat) (v : Value) (l : List α) : Prop := w.ownsRow base e k v l.length (l.flatMap enc)
structure Fits (t e : TypeId) (k bytes : Nat) (z : Value) : Prop where
  und : Tryd.prog.underlying t = some (.slice e)
  info : (Tryd.prog.info? e).map (fun i => (i.zero, i.size, i.bytes)) = some (some z, k, bytes)
  zs : z.cells.size = k
  pos : 0 < k
  small : bytes ≤ 1000
structure Encs {α : Type} (k : Nat) (enc : α → List Value) : Prop where
  len : ∀ x, (enc x).length = k
  one : ∀ x, ∀ u ∈ enc x, u.oneCell' = true
section
variable {α : Type} {k bytes : Nat} {t e : TypeId} {z : Value} {enc : α → List Value} {w w' : World} {base : Nat} {v : Value} {l m : List α}
theorem Owns.keep (h : Owns k e enc w base v l) (hb : Below w.heap.size w w') : Owns k e enc w' base v l := own_keep h hb
theorem Owns.is (h : Owns k e enc w base v l) (hE : Encs k enc) (hm : l.length ≤ 9223372036854775807) : IsRows k enc w v l := IsRows.of_owns (base := base) (e := e) h (fun x _ => hE.len x) hm
theorem Owns.nil (w : World) (base : Nat) : Owns k e enc w base (.slice none 0 0) [] := World.ownsRow_nil _ _ _ _
theorem Owns.lit (w : World) : Owns k e enc (w.alloc (.cells #[] e)) w.heap.size (.slice (some ⟨w.heap.size, 0, none⟩) 0 0) [] := World.ownsRow_lit w #[] 0 (Nat.le_refl _) (by decide) (by simp)
theorem Owns.form (h : Owns k e enc w base v l) : ∃ a c, v = .slice a l.length c := own_slice h
theorem Owns.set (h : Owns k e enc w base v l) {p : Addr} (hp : p.block < base) (x : Value) : Owns k e enc (w.setCell p x) base v l := own_set h hp x
theorem Owns.kept {row : Option Nat} (h : Owns k e enc w base v l) (hg : w.grownBy w' row) (hr : v.ownBlock = none ∨ v.ownBlock ≠ row) : Owns k e enc w' base v l := World.ownsRow.kept h hg hr
end
section
variable {α : Type} {k bytes : Nat} {t e : TypeId} {z : Value} {enc : α → List Value} {wr w : World} {ops : Array Oper} {o : Oper} {a : Act} {Q : Exit → Act → World → Prop} {base : Nat} {v x : Value} {l m : List α}
theorem step_cat {K : Act → World → Prop} {E : Prop} (hF : Fits t e k bytes z) (hE : Encs k enc) (hw : Region.wanted o (yielded ops a.tmps) = true) (s y : Operand) (ho : o.op = .call { callee := .builtin .append, args := #[s, y], argTypes := #[t, t] })
    (hs : a.eval s = v) (hy : a.eval y = x) (hO : Owns k e enc wr base v l) (hb : Below wr.heap.size wr w) (hm : IsRows k enc w x m) (hbase : base ≤ wr.heap.size) (hL : l.length ≤ 1000000) (hM : m.length ≤ 1000000)
    (h : ∀ p c w', Owns k e enc w' base (.slice p (l ++ m).length c) (l ++ m) → Below base wr w' → w.grownBy w' v.ownBlock → K (a.put o.dst (.slice p (l ++ m).length c)) w') : if Region.wanted o (yielded ops a.tmps) = true then Oper.wp Tryd.prog o a w K Q else E := by
  obtain ⟨i0, hi, hz0, hz1, hz2⟩ := info_parts' hF.info
  have hown : w.ownsRow base e k v l.length (l.flatMap enc) := own_keep hO hb
  have h1 : (l.length + m.length) * bytes ≤ 140737488355328 := Nat.le_trans (Nat.mul_le_mul (show l.length + m.length ≤ 2000000 by omega) hF.small) (by omega)
  refine step_append_rows hw enc s y t ho base e i0 _ k bytes hF.und hi hz0 hz1 hz2 hF.zs hF.pos v l.length _ hs hown x m hy hm (fun y _ => hE.len y) (fun y _ => hE.one y) (by unfold maxLen; omega) h1 (by have := hb.size; omega) ?_
  intro v' w' hown' hg _
  have h2 : Owns k e enc w' base v' (l ++ m) := by unfold Owns; rw [List.length_append, List.flatMap_append]; exact hown'
  obtain ⟨p, c, rfl⟩ := h2.form
  exact h p c w' h2 (below_own hO hb hg hbase) hg
theorem wpList_cat {rest : List Oper} (hF : Fits t e k bytes z) (hE : Encs k enc) (hgd : o.guard = none) (s y : Operand) (ho : o.op = .call { callee := .builtin .append, args := #[s, y], argTypes := #[t, t] })
    (hs : a.eval s = v) (hy : a.eval y = x) (hO : Owns k e enc wr base v l) (hb : Below wr.heap.size wr w) (hm : IsRows k enc w x m) (hbase : base ≤ wr.heap.size) (hL : l.length ≤ 1000000) (hM : m.length ≤ 1000000)
    (h : ∀ p c w', Owns k e enc w' base (.slice p (l ++ m).length c) (l ++ m) → Below base wr w' → w.grownBy w' v.ownBlock → wpList Tryd.prog ops Q rest (a.put o.dst (.slice p (l ++ m).length c)) w') : wpList Tryd.prog ops Q (o :: rest) a w := by
  obtain ⟨i0, hi, hz0, hz1, hz2⟩ := info_parts' hF.info
  have hown : w.ownsRow base e k v l.length (l.flatMap enc) := own_keep hO hb
  have h1 : (l.length + m.length) * bytes ≤ 140737488355328 := Nat.le_trans (Nat.mul_le_mul (show l.length + m.length ≤ 2000000 by omega) hF.small) (by omega)
  refine wpList_append_rows hgd enc s y t ho base e i0 _ k bytes hF.und hi hz0 hz1 hz2 hF.zs hF.pos v l.length _ hs hown x m hy hm (fun y _ => hE.len y) (fun y _ => hE.one y) (by unfold maxLen; omega) h1 (by have := hb.size; omega) ?_
  intro v' w' hown' hg _
  have h2 : Owns k e enc w' base v' (l ++ m) := by unfold Owns; rw [List.length_append, List.flatMap_append]; exact hown'
  obtain ⟨p, c, rfl⟩ := h2.form
  exact h p c w' h2 (below_own hO hb hg hbase) hg
end
/-- What a block of cells reads as. -/
theorem IsRows.block {α : Type} {k g : Nat} {e : TypeId} {enc : α → List Value} {w : World} {l : List α} {fr : Nat × Nat} (hE : Encs k enc) (h : w.heap[g]? = some (.cells (l.flatMap enc).toArray e fr)) (hl : l.length ≤ 9223372036854775807) : IsRows k enc w (.slice (some ⟨g, 0, none⟩) l.length l.length) l := by
  refine ⟨_, _, rfl, .inr ⟨_, _, rfl, fun i x hi j u hj => ?_⟩, hl, Nat.le_refl _, hl⟩
  have := flats_get l (fun x _ => hE.len x) i x hi j u hj
  unfold World.cell?
  rw [h]
  simpa using this
theorem IsRows.lit {α : Type} {k : Nat} {e : TypeId} {enc : α → List Value} (w : World) (l : List α) (hE : Encs k enc) (hl : l.length ≤ 9223372036854775807) : IsRows k enc (w.alloc (.cells (l.flatMap enc).toArray e)) (.slice (some ⟨w.heap.size, 0, none⟩) l.length l.length) l :=
  IsRows.block hE (World.alloc_heap_new w _) hl
/-! ### rows -/
/-- A row: where its slices lie, and what they read as. -/
structure RR where
  pa : Option Addr
  ca : Nat
  t : Tp
  pw : Option Addr
  cw : Nat
  s : List Sp
abbrev RR.av (r : RR) : Value := .slice r.pa r.t.length r.ca
abbrev RR.wv (r : RR) : Value := .slice r.pw r.s.length r.cw
def encR (r : RR) : List Value := [r.av, r.wv]
def rowV (r : RR) : Value := .agg #[r.av, r.wv]
def RR.rw (r : RR) : Rw := (r.t, r.s)
def RowOk (w : World) (r : RR) : Prop := IsVals w r.av r.t ∧ IsSpans w r.wv r.s
theorem RowOk.keep {w w' : World} {r : RR} (h : RowOk w r) (hb : Below w.heap.size w w') : RowOk w' r := ⟨h.1.keep hb, h.2.keep hb⟩
def noRow : RR := ⟨none, 0, [], none, 0, []⟩
theorem noRow_ok (w : World) : RowOk w noRow := ⟨IsVals.nil w, IsSpans.nil w⟩
def rows (xs : List RR) : List Rw := xs.map RR.rw
theorem rows_append (a b : List RR) : rows (a ++ b) = rows a ++ rows b := by simp [rows]
theorem rows_length (a : List RR) : (rows a).length = a.length := by simp [rows]
/-- The value v is a slice that reads as the rows xs. -/
def IsRel (w : World) (v : Value) (xs : List RR) : Prop := IsRows 2 encR w v xs ∧ ∀ x ∈ xs, RowOk w x
theorem IsRel.keep {w w' : World} {v : Value} {xs : List RR} (h : IsRel w v xs) (hb : Below w.heap.size w w') : IsRel w' v xs := ⟨h.1.keep (keeps_below hb), fun x hx => (h.2 x hx).keep hb⟩
theorem IsRel.nil (w : World) : IsRel w (.slice none 0 0) [] := ⟨⟨none, 0, rfl, .inl rfl, by simp, by simp, by simp⟩, by simp⟩
theorem IsRel.shape {w : World} {v : Value} {xs : List RR} (h : IsRel w v xs) : ∃ a c, v = .slice a xs.length c ∧ xs.length ≤ 9223372036854775807 ∧ xs.length ≤ c ∧ c ≤ 9223372036854775807 := by
  obtain ⟨⟨a, c, e, _, hm⟩, _⟩ := h
  exact ⟨a, c, e, hm⟩
theorem IsRel.at_ {w : World} {a : Option Addr} {n c : Nat} {xs : List RR} (h : IsRel w (.slice a n c) xs) {i : Nat} {x : RR} (hi : xs[i]? = some x) :
    ∃ b off, a = some ⟨b, off, none⟩ ∧ w.cell? ⟨b, off + i * 2, none⟩ = some x.av ∧ w.cell? ⟨b, off + i * 2 + 1, none⟩ = some x.wv ∧ RowOk w x := by
  obtain ⟨⟨a', c', e, hr, hm⟩, h2⟩ := h
  injection e with e1 e2 e3
  subst e1
  obtain ⟨b, off, ha, hc⟩ := hr.at_ hi
  have hc := hc i x hi
  exact ⟨b, off, ha, hc 0 _ rfl, hc 1 _ rfl, h2 x (List.mem_of_getElem? hi)⟩
theorem encsR : Encs 2 encR := ⟨fun _ => rfl, fun x u hu => by unfold encR at hu; simp at hu; rcases hu with rfl | rfl <;> rfl⟩
theorem encsV : Encs 3 encVl := ⟨fun _ => rfl, fun x u hu => by unfold encVl at hu; simp at hu; rcases hu with rfl | rfl | rfl <;> rfl⟩
def encSp (s : Sp) : List Value := [.int .i64 s.1, .int .i64 s.2]
theorem encsS : Encs 2 encSp := ⟨fun _ => rfl, fun x u hu => by unfold encSp at hu; simp at hu; rcases hu with rfl | rfl <;> rfl⟩
theorem fitsR24 : Fits 24 44 2 48 (.agg #[.slice none 0 0, .slice none 0 0]) := ⟨Tryd.underlying24, by kernel_rfl, by kernel_rfl, by decide, by decide⟩
theorem fitsR23 : Fits 23 44 2 48 (.agg #[.slice none 0 0, .slice none 0 0]) := ⟨Tryd.underlying23, by kernel_rfl, by kernel_rfl, by decide, by decide⟩
theorem fitsV : Fits 25 58 3 32 (.agg #[.int .i64 0, .int .i64 0, .string ⟨#[]⟩]) := ⟨Tryd.underlying25, by kernel_rfl, by kernel_rfl, by decide, by decide⟩
theorem fitsS : Fits 26 86 2 16 (.agg #[.int .i64 0, .int .i64 0]) := ⟨Tryd.underlying26, by kernel_rfl, by kernel_rfl, by decide, by decide⟩
/-! ### spans as rows -/
theorem IsSpans.of_rows {w : World} {v : Value} {l : List Sp} (h : IsRows 2 encSp w v l) : IsSpans w v l := by
  obtain ⟨a, c, e, hr, hm⟩ := h
  refine ⟨a, c, e, ?_, hm⟩
  rcases hr with h | ⟨b, off, ha, hc⟩
  · exact .inl h
  · refine .inr ⟨b, off, ha, fun i hi => ?_⟩
    have hx : l[i]? = some (l.getD i (0, 0)) := by simp [hi]
    have h0 := hc i _ hx 0 _ rfl
    have h1 := hc i _ hx 1 _ rfl
    exact ⟨h0, h1⟩
theorem IsSpans.rows {w : World} {v : Value} {l : List Sp} (h : IsSpans w v l) : IsRows 2 encSp w v l := by
  obtain ⟨a, c, e, hr, hm⟩ := h
  refine ⟨a, c, e, ?_, hm⟩
  rcases hr with h | ⟨b, off, ha, hc⟩
  · exact .inl h
  · refine .inr ⟨b, off, ha, fun i x hi j u hj => ?_⟩
    have hlt := (List.getElem?_eq_some_iff.1 hi).1
    obtain ⟨h0, h1⟩ := hc i hlt
    have hx : l.getD i (0, 0) = x := by rw [List.getD_eq_getElem?_getD, hi]; rfl
    rw [hx] at h0 h1
    rcases j with _ | _ | j
    · obtain rfl : Value.int .i64 x.1 = u := by simpa [encSp] using hj
      exact h0
    · obtain rfl : Value.int .i64 x.2 = u := by simpa [encSp] using hj
      exact h1
    · simp [encSp] at hj
end Go.Proofs.YtdibijhaiaiifaaDoor
