/- Parts Rws, Xd, Sa, Sb, Sc, Sd: words, walks and laws that the claims of this seat share. -/
import Derived.Test.YtdibijhaiaiifaaDoorJ5
import Derived.Lib.LazyBuf
import Derived.Sort.LotA
import Derived.BigRegion
/- Rows and relations in memory; slices that a call owns; append. -/
namespace Go.Proofs.YtdibijhaiaiifaaDoor
open Go.RowKit
/-! ### slices that a call owns -/
def Owns {α : Type} (k : Nat) (e : TypeId) (enc : α → List Value) (w : World) (base : Nat) (v : Value) (l : List α) : Prop := w.ownsRow base e k v l.length (l.flatMap enc)
structure Fits (t e : TypeId) (k bytes : Nat) (z : Value) : Prop where
  und : Tryd.prog.underlying t = some (.slice e)
  info : (Tryd.prog.info? e).map (fun i => (i.zero, i.size, i.bytes)) = some (some z, k, bytes)
  zs : z.cells.size = k
  pos : 0 < k
  small : bytes ≤ 1000
structure Encs {α : Type} (k : Nat) (enc : α → List Value) : Prop where
  len : ∀ x, (enc x).length = k
  one : ∀ x, ∀ u ∈ enc x, u.oneCell' = true
section
variable {α : Type} {k bytes : Nat} {t e : TypeId} {z : Value} {enc : α → List Value} {w w' : World} {base : Nat} {v : Value} {l m : List α}
theorem Owns.keep (h : Owns k e enc w base v l) (hb : Below w.heap.size w w') : Owns k e enc w' base v l := own_keep h hb
theorem Owns.is (h : Owns k e enc w base v l) (hE : Encs k enc) (hm : l.length ≤ 9223372036854775807) : IsRows k enc w v l := IsRows.of_owns (base := base) (e := e) h (fun x _ => hE.len x) hm
theorem Owns.nil (w : World) (base : Nat) : Owns k e enc w base (.slice none 0 0) [] := World.ownsRow_nil _ _ _ _
theorem Owns.lit (w : World) : Owns k e enc (w.alloc (.cells #[] e)) w.heap.size (.slice (some ⟨w.heap.size, 0, none⟩) 0 0) [] := World.ownsRow_lit w #[] 0 (Nat.le_refl _) (by decide) (by simp)
theorem Owns.form (h : Owns k e enc w base v l) : ∃ a c, v = .slice a l.length c := own_slice h
theorem Owns.set (h : Owns k e enc w base v l) {p : Addr} (hp : p.block < base) (x : Value) : Owns k e enc (w.setCell p x) base v l := own_set h hp x
theorem Owns.kept {row : Option Nat} (h : Owns k e enc w base v l) (hg : w.grownBy w' row) (hr : v.ownBlock = none ∨ v.ownBlock ≠ row) : Owns k e enc w' base v l := World.ownsRow.kept h hg hr
end
section
variable {α : Type} {k bytes : Nat} {t e : TypeId} {z : Value} {enc : α → List Value} {wr w : World} {ops : Array Oper} {o : Oper} {a : Act} {Q : Exit → Act → World → Prop} {base : Nat} {v x : Value} {l m : List α}
theorem step_cat {K : Act → World → Prop} {E : Prop} (hF : Fits t e k bytes z) (hE : Encs k enc) (hw : Region.wanted o (yielded ops a.tmps) = true) (s y : Operand) (ho : o.op = .call { callee := .builtin .append, args := #[s, y], argTypes := #[t, t] })
    (hs : a.eval s = v) (hy : a.eval y = x) (hO : Owns k e enc wr base v l) (hb : Below wr.heap.size wr w) (hm : IsRows k enc w x m) (hbase : base ≤ wr.heap.size) (hL : l.length ≤ 1000000) (hM : m.length ≤ 1000000)
    (h : ∀ p c w', Owns k e enc w' base (.slice p (l ++ m).length c) (l ++ m) → Below base wr w' → w.grownBy w' v.ownBlock → K (a.put o.dst (.slice p (l ++ m).length c)) w') : if Region.wanted o (yielded ops a.tmps) = true then Oper.wp Tryd.prog o a w K Q else E := by
  obtain ⟨i0, hi, hz0, hz1, hz2⟩ := info_parts' hF.info
  have hown : w.ownsRow base e k v l.length (l.flatMap enc) := own_keep hO hb
  have h1 : (l.length + m.length) * bytes ≤ 140737488355328 := Nat.le_trans (Nat.mul_le_mul (show l.length + m.length ≤ 2000000 by omega) hF.small) (by omega)
  refine step_append_rows hw enc s y t ho base e i0 _ k bytes hF.und hi hz0 hz1 hz2 hF.zs hF.pos v l.length _ hs hown x m hy hm (fun y _ => hE.len y) (fun y _ => hE.one y) (by unfold maxLen; omega) h1 (by have := hb.size; omega) ?_
  intro v' w' hown' hg _
  have h2 : Owns k e enc w' base v' (l ++ m) := by unfold Owns; rw [List.length_append, List.flatMap_append]; exact hown'
  obtain ⟨p, c, rfl⟩ := h2.form
  exact h p c w' h2 (below_own hO hb hg hbase) hg
theorem wpList_cat {rest : List Oper} (hF : Fits t e k bytes z) (hE : Encs k enc) (hgd : o.guard = none) (s y : Operand) (ho : o.op = .call { callee := .builtin .append, args := #[s, y], argTypes := #[t, t] })
    (hs : a.eval s = v) (hy : a.eval y = x) (hO : Owns k e enc wr base v l) (hb : Below wr.heap.size wr w) (hm : IsRows k enc w x m) (hbase : base ≤ wr.heap.size) (hL : l.length ≤ 1000000) (hM : m.length ≤ 1000000)
    (h : ∀ p c w', Owns k e enc w' base (.slice p (l ++ m).length c) (l ++ m) → Below base wr w' → w.grownBy w' v.ownBlock → wpList Tryd.prog ops Q rest (a.put o.dst (.slice p (l ++ m).length c)) w') : wpList Tryd.prog ops Q (o :: rest) a w := by
  obtain ⟨i0, hi, hz0, hz1, hz2⟩ := info_parts' hF.info
  have hown : w.ownsRow base e k v l.length (l.flatMap enc) := own_keep hO hb
  have h1 : (l.length + m.length) * bytes ≤ 140737488355328 := Nat.le_trans (Nat.mul_le_mul (show l.length + m.length ≤ 2000000 by omega) hF.small) (by omega)
  refine wpList_append_rows hgd enc s y t ho base e i0 _ k bytes hF.und hi hz0 hz1 hz2 hF.zs hF.pos v l.length _ hs hown x m hy hm (fun y _ => hE.len y) (fun y _ => hE.one y) (by unfold maxLen; omega) h1 (by have := hb.size; omega) ?_
  intro v' w' hown' hg _
  have h2 : Owns k e enc w' base v' (l ++ m) := by unfold Owns; rw [List.length_append, List.flatMap_append]; exact hown'
  obtain ⟨p, c, rfl⟩ := h2.form
  exact h p c w' h2 (below_own hO hb hg hbase) hg
end
/-- What a block of cells reads as. -/
theorem IsRows.block {α : Type} {k g : Nat} {e : TypeId} {enc : α → List Value} {w : World} {l : List α} {fr : Nat × Nat} (hE : Encs k enc) (h : w.heap[g]? = some (.cells (l.flatMap enc).toArray e fr)) (hl : l.length ≤ 9223372036854775807) : IsRows k enc w (.slice (some ⟨g, 0, none⟩) l.length l.length) l := by
  refine ⟨_, _, rfl, .inr ⟨_, _, rfl, fun i x hi j u hj => ?_⟩, hl, Nat.le_refl _, hl⟩
  have := flats_get l (fun x _ => hE.len x) i x hi j u hj
  unfold World.cell?
  rw [h]
  simpa using this
theorem IsRows.lit {α : Type} {k : Nat} {e : TypeId} {enc : α → List Value} (w : World) (l : List α) (hE : Encs k enc) (hl : l.length ≤ 9223372036854775807) : IsRows k enc (w.alloc (.cells (l.flatMap enc).toArray e)) (.slice (some ⟨w.heap.size, 0, none⟩) l.length l.length) l :=
  IsRows.block hE (World.alloc_heap_new w _) hl
/-! ### rows -/
/-- A row: where its slices lie, and what they read as. -/
structure RR where
  pa : Option Addr
  ca : Nat
  t : Tp
  pw : Option Addr
  cw : Nat
  s : List Sp
abbrev RR.av (r : RR) : Value := .slice r.pa r.t.length r.ca
abbrev RR.wv (r : RR) : Value := .slice r.pw r.s.length r.cw
def encR (r : RR) : List Value := [r.av, r.wv]
def rowV (r : RR) : Value := .agg #[r.av, r.wv]
def RR.rw (r : RR) : Rw := (r.t, r.s)
def RowOk (w : World) (r : RR) : Prop := IsVals w r.av r.t ∧ IsSpans w r.wv r.s
theorem RowOk.keep {w w' : World} {r : RR} (h : RowOk w r) (hb : Below w.heap.size w w') : RowOk w' r := ⟨h.1.keep hb, h.2.keep hb⟩
def noRow : RR := ⟨none, 0, [], none, 0, []⟩
theorem noRow_ok (w : World) : RowOk w noRow := ⟨IsVals.nil w, IsSpans.nil w⟩
def rows (xs : List RR) : List Rw := xs.map RR.rw
theorem rows_append (a b : List RR) : rows (a ++ b) = rows a ++ rows b := by simp [rows]
theorem rows_length (a : List RR) : (rows a).length = a.length := by simp [rows]
/-- The value v is a slice that reads as the rows xs. -/
def IsRel (w : World) (v : Value) (xs : List RR) : Prop := IsRows 2 encR w v xs ∧ ∀ x ∈ xs, RowOk w x
theorem IsRel.keep {w w' : World} {v : Value} {xs : List RR} (h : IsRel w v xs) (hb : Below w.heap.size w w') : IsRel w' v xs := ⟨h.1.keep (keeps_below hb), fun x hx => (h.2 x hx).keep hb⟩
theorem IsRel.nil (w : World) : IsRel w (.slice none 0 0) [] := ⟨⟨none, 0, rfl, .inl rfl, by simp, by simp, by simp⟩, by simp⟩
theorem IsRel.shape {w : World} {v : Value} {xs : List RR} (h : IsRel w v xs) : ∃ a c, v = .slice a xs.length c ∧ xs.length ≤ 9223372036854775807 ∧ xs.length ≤ c ∧ c ≤ 9223372036854775807 := by
  obtain ⟨⟨a, c, e, _, hm⟩, _⟩ := h
  exact ⟨a, c, e, hm⟩
theorem IsRel.at_ {w : World} {a : Option Addr} {n c : Nat} {xs : List RR} (h : IsRel w (.slice a n c) xs) {i : Nat} {x : RR} (hi : xs[i]? = some x) :
    ∃ b off, a = some ⟨b, off, none⟩ ∧ w.cell? ⟨b, off + i * 2, none⟩ = some x.av ∧ w.cell? ⟨b, off + i * 2 + 1, none⟩ = some x.wv ∧ RowOk w x := by
  obtain ⟨⟨a', c', e, hr, hm⟩, h2⟩ := h
  injection e with e1 e2 e3
  subst e1
  obtain ⟨b, off, ha, hc⟩ := hr.at_ hi
  have hc := hc i x hi
  exact ⟨b, off, ha, hc 0 _ rfl, hc 1 _ rfl, h2 x (List.mem_of_getElem? hi)⟩
theorem encsR : Encs 2 encR := ⟨fun _ => rfl, fun x u hu => by unfold encR at hu; simp at hu; rcases hu with rfl | rfl <;> rfl⟩
theorem encsV : Encs 3 encVl := ⟨fun _ => rfl, fun x u hu => by unfold encVl at hu; simp at hu; rcases hu with rfl | rfl | rfl <;> rfl⟩
def encSp (s : Sp) : List Value := [.int .i64 s.1, .int .i64 s.2]
theorem encsS : Encs 2 encSp := ⟨fun _ => rfl, fun x u hu => by unfold encSp at hu; simp at hu; rcases hu with rfl | rfl <;> rfl⟩
theorem fitsR24 : Fits 24 44 2 48 (.agg #[.slice none 0 0, .slice none 0 0]) := ⟨Tryd.underlying24, by kernel_rfl, by kernel_rfl, by decide, by decide⟩
theorem fitsR23 : Fits 23 44 2 48 (.agg #[.slice none 0 0, .slice none 0 0]) := ⟨Tryd.underlying23, by kernel_rfl, by kernel_rfl, by decide, by decide⟩
theorem fitsV : Fits 25 58 3 32 (.agg #[.int .i64 0, .int .i64 0, .string ⟨#[]⟩]) := ⟨Tryd.underlying25, by kernel_rfl, by kernel_rfl, by decide, by decide⟩
theorem fitsS : Fits 26 86 2 16 (.agg #[.int .i64 0, .int .i64 0]) := ⟨Tryd.underlying26, by kernel_rfl, by kernel_rfl, by decide, by decide⟩
/-! ### spans as rows -/
theorem IsSpans.of_rows {w : World} {v : Value} {l : List Sp} (h : IsRows 2 encSp w v l) : IsSpans w v l := by
  obtain ⟨a, c, e, hr, hm⟩ := h
  refine ⟨a, c, e, ?_, hm⟩
  rcases hr with h | ⟨b, off, ha, hc⟩
  · exact .inl h
  · refine .inr ⟨b, off, ha, fun i hi => ?_⟩
    have hx : l[i]? = some (l.getD i (0, 0)) := by simp [hi]
    have h0 := hc i _ hx 0 _ rfl
    have h1 := hc i _ hx 1 _ rfl
    exact ⟨h0, h1⟩
theorem IsSpans.rows {w : World} {v : Value} {l : List Sp} (h : IsSpans w v l) : IsRows 2 encSp w v l := by
  obtain ⟨a, c, e, hr, hm⟩ := h
  refine ⟨a, c, e, ?_, hm⟩
  rcases hr with h | ⟨b, off, ha, hc⟩
  · exact .inl h
  · refine .inr ⟨b, off, ha, fun i x hi j u hj => ?_⟩
    have hlt := (List.getElem?_eq_some_iff.1 hi).1
    obtain ⟨h0, h1⟩ := hc i hlt
    have hx : l.getD i (0, 0) = x := by rw [List.getD_eq_getElem?_getD, hi]; rfl
    rw [hx] at h0 h1
    rcases j with _ | _ | j
    · obtain rfl : Value.int .i64 x.1 = u := by simpa [encSp] using hj
      exact h0
    · obtain rfl : Value.int .i64 x.2 = u := by simpa [encSp] using hj
      exact h1
    · simp [encSp] at hj
end Go.Proofs.YtdibijhaiaiifaaDoor
/- The walks of byArgs and of the library's Clone. -/
namespace Go.Proofs.YtdibijhaiaiifaaDoor
open Go.RowKit
theorem cells2 (w : World) (x y : Value) (t : TypeId) : (w.alloc (.cells #[x, y] t)).cell? ⟨w.heap.size, 0, none⟩ = some x ∧ (w.alloc (.cells #[x, y] t)).cell? ⟨w.heap.size, 1, none⟩ = some y := by
  have e : (w.alloc (.cells #[x, y] t)).heap[w.heap.size]? = some (.cells #[x, y] t) := World.alloc_heap_new w _
  exact ⟨cell_at e rfl, cell_at e rfl⟩
theorem byArgs_any (x y : RR) (w : World) (hx : IsVals w x.av x.t) (hy : IsVals w y.av y.t) : Calls Tryd.prog 73 #[rowV x, rowV y] w fun e w' => e = .returned (.int .i64 (cmpT x.t y.t)) ∧ Grew w w' := by
  unfold rowV
  have g := ((Grew.refl w).alloc (.cells #[x.av, x.wv] 44)).alloc (.cells #[y.av, y.wv] 44)
  obtain ⟨x0, x1⟩ := cells2 w x.av x.wv 44
  obtain ⟨y0, y1⟩ := cells2 (w.alloc (.cells #[x.av, x.wv] 44)) y.av y.wv 44
  have bb := below_new (w.alloc (.cells #[x.av, x.wv] 44)) (.cells #[y.av, y.wv] 44)
  replace x0 := cell_keep bb x0
  replace x1 := cell_keep bb x1
  clear bb
  rw [show (w.alloc (.cells #[x.av, x.wv] 44)).heap.size = w.heap.size + 1 by simp] at y0 y1
  go_enter Tryd.func73, Tryd.ntmps73
  go_upto_region 1 with fail
  obtain ⟨w0, hw0⟩ : ∃ u : World, u = (w.alloc (.cells #[x.av, x.wv] 44)).alloc (.cells #[y.av, y.wv] 44) := ⟨_, rfl⟩
  rw [← hw0] at x0 x1 y0 y1 g
  rw [← hw0]
  clear hw0
  go_wp2_with fail
  refine (CompareTuple_any _ _ x.t y.t _ (hx.keep g.below) (hy.keep g.below)).mono ?_
  rintro e w3 ⟨rfl, hg⟩
  go_wp2
  go_ret
  exact ⟨rfl, g.trans hg⟩
set_option maxRecDepth 100000 in
theorem CloneR_any (v : Value) (l : List RR) (w : World) (h : IsRows 2 encR w v l) (hl : l.length ≤ 1000000) :
    Calls Tryd.prog 127 #[v] w fun e w' => ∃ u, e = .returned u ∧ Owns 2 44 encR w' w.heap.size u l ∧ Below w.heap.size w w' := by
  have h0 : Owns 2 44 encR (w.alloc (.cells #[] 44)) w.heap.size (.slice (some ⟨w.heap.size, 0, none⟩) 0 0) [] := Owns.lit w
  have b0 := below_new w (.cells #[] 44)
  have hx := h.keep (keeps_below b0)
  have heq := fun (w : World) (a : Option Addr) (l c : Nat) => Lib.run_eql_slice_nil (P := Tryd.prog) w 24 44 a l c 0 0 Tryd.underlying24
  obtain ⟨a, c, rfl, hr, hm⟩ := h
  cases a with
  | none =>
    have hn : l = [] := by
      rcases hr with h | ⟨b, off, ha, _⟩
      · exact h
      · cases ha
    subst hn
    go_enter Tryd.func127, Tryd.ntmps127
    go_wp2
    go_ret
    exact ⟨_, rfl, Owns.nil _ _, Below.refl _ _⟩
  | some ad =>
    go_enter Tryd.func127, Tryd.ntmps127
    go_wp2_with (at_builtin; refine wpList_cat fitsR24 encsR rfl _ _ rfl rfl rfl h0 (Below.refl _ _) hx (by simp) (by simp) hl ?_; intro p1 c1 w1 hO hB hG)
    go_ret
    exact ⟨_, rfl, hO, b0.trans hB⟩
set_option maxRecDepth 100000 in
theorem CloneV_any (v : Value) (l : List Vl) (w : World) (h : IsRows 3 encVl w v l) (hl : l.length ≤ 1000000) :
    Calls Tryd.prog 129 #[v] w fun e w' => ∃ u, e = .returned u ∧ Owns 3 58 encVl w' w.heap.size u l ∧ Below w.heap.size w w' := by
  have h0 : Owns 3 58 encVl (w.alloc (.cells #[] 58)) w.heap.size (.slice (some ⟨w.heap.size, 0, none⟩) 0 0) [] := Owns.lit w
  have b0 := below_new w (.cells #[] 58)
  have hx := h.keep (keeps_below b0)
  have heq := fun (w : World) (a : Option Addr) (l c : Nat) => Lib.run_eql_slice_nil (P := Tryd.prog) w 25 58 a l c 0 0 Tryd.underlying25
  obtain ⟨a, c, rfl, hr, hm⟩ := h
  cases a with
  | none =>
    have hn : l = [] := by
      rcases hr with h | ⟨b, off, ha, _⟩
      · exact h
      · cases ha
    subst hn
    go_enter Tryd.func129, Tryd.ntmps129
    go_wp2
    go_ret
    exact ⟨_, rfl, Owns.nil _ _, Below.refl _ _⟩
  | some ad =>
    go_enter Tryd.func129, Tryd.ntmps129
    go_wp2_with (at_builtin; refine wpList_cat fitsV encsV rfl _ _ rfl rfl rfl h0 (Below.refl _ _) hx (by simp) (by simp) hl ?_; intro p1 c1 w1 hO hB hG)
    go_ret
    exact ⟨_, rfl, hO, b0.trans hB⟩
set_option maxRecDepth 100000 in
theorem CloneW_any (v : Value) (l : List RR) (w : World) (h : IsRows 2 encR w v l) (hl : l.length ≤ 1000000) :
    Calls Tryd.prog 136 #[v] w fun e w' => ∃ u, e = .returned u ∧ Owns 2 44 encR w' w.heap.size u l ∧ Below w.heap.size w w' := by
  have h0 : Owns 2 44 encR (w.alloc (.cells #[] 44)) w.heap.size (.slice (some ⟨w.heap.size, 0, none⟩) 0 0) [] := Owns.lit w
  have b0 := below_new w (.cells #[] 44)
  have hx := h.keep (keeps_below b0)
  have heq := fun (w : World) (a : Option Addr) (l c : Nat) => Lib.run_eql_slice_nil (P := Tryd.prog) w 23 44 a l c 0 0 Tryd.underlying23
  obtain ⟨a, c, rfl, hr, hm⟩ := h
  cases a with
  | none =>
    have hn : l = [] := by
      rcases hr with h | ⟨b, off, ha, _⟩
      · exact h
      · cases ha
    subst hn
    go_enter Tryd.func136, Tryd.ntmps136
    go_wp2
    go_ret
    exact ⟨_, rfl, Owns.nil _ _, Below.refl _ _⟩
  | some ad =>
    go_enter Tryd.func136, Tryd.ntmps136
    go_wp2_with (at_builtin; refine wpList_cat fitsR23 encsR rfl _ _ rfl rfl rfl h0 (Below.refl _ _) hx (by simp) (by simp) hl ?_; intro p1 c1 w1 hO hB hG)
    go_ret
    exact ⟨_, rfl, hO, b0.trans hB⟩
end Go.Proofs.YtdibijhaiaiifaaDoor
/- The sort's state: a block of rows that the call owns. -/
namespace Go.Proofs.YtdibijhaiaiifaaDoor
open Go.RowKit
open Go.Sort (swp)
instance : Inhabited RR := ⟨noRow⟩
/-- The block G, laid behind wb, holds the rows d. -/
structure St (wb : World) (G : Nat) (d : Array RR) (W : World) : Prop where
  below : Below wb.heap.size wb W
  ge : wb.heap.size ≤ G
  blk : ∃ cs : Array Value, W.heap[G]? = some (.cells cs 44 (0, 0)) ∧ 2 * d.size ≤ cs.size ∧ ∀ i, i < d.size → cs[i * 2]? = some (d[i]!).av ∧ cs[i * 2 + 1]? = some (d[i]!).wv
  ok : ∀ i, i < d.size → RowOk wb d[i]!
section
variable {wb W W' : World} {G : Nat} {d : Array RR}
theorem St.lt (h : St wb G d W) : G < W.heap.size := by obtain ⟨cs, h, _⟩ := h.blk; exact block_lt h
theorem St.keep (h : St wb G d W) (hb : Below W.heap.size W W') : St wb G d W' := by
  refine ⟨h.below.trans (hb.mono h.below.size), h.ge, ?_, h.ok⟩
  obtain ⟨cs, h1, h2⟩ := h.blk
  exact ⟨cs, block_keep h1 hb, h2⟩
theorem St.grew (h : St wb G d W) (g : Grew W W') : St wb G d W' := h.keep g.below
theorem St.cells (h : St wb G d W) {i : Nat} (hi : i < d.size) : W.cell? ⟨G, i * 2, none⟩ = some (d[i]!).av ∧ W.cell? ⟨G, i * 2 + 1, none⟩ = some (d[i]!).wv := by
  obtain ⟨cs, h1, _, h2⟩ := h.blk
  obtain ⟨c0, c1⟩ := h2 i hi
  exact ⟨cell_at h1 c0, cell_at h1 c1⟩
theorem St.free (h : St wb G d W) (j : Nat) : W.frozen? ⟨G, j, none⟩ = false := by
  obtain ⟨cs, h1, _⟩ := h.blk
  exact free_at h1
theorem St.row (h : St wb G d W) {i : Nat} (hi : i < d.size) : RowOk W d[i]! := (h.ok i hi).keep h.below
theorem swp_get (d : Array RR) (i j k : Nat) (hi : i < d.size) (hj : j < d.size) : (swp d i j)[k]! = if k = j then d[i]! else if k = i then d[j]! else d[k]! := by
  by_cases h1 : k = j
  · subst h1; rw [if_pos rfl, Go.Sort.swp_right d i k hj]
  · rw [if_neg h1]
    by_cases h2 : k = i
    · subst h2; rw [if_pos rfl, Go.Sort.swp_left d k j hi h1]
    · rw [if_neg h2, Go.Sort.swp_other d i j k h2 h1]
theorem St.swap (h : St wb G d W) {i j : Nat} (hi : i < d.size) (hj : j < d.size) :
    St wb G (swp d i j) ((((W.setCell ⟨G, i * 2, none⟩ (d[j]!).av).setCell ⟨G, i * 2 + 1, none⟩ (d[j]!).wv).setCell ⟨G, j * 2, none⟩ (d[i]!).av).setCell ⟨G, j * 2 + 1, none⟩ (d[i]!).wv) := by
  obtain ⟨cs, h1, hs, h2⟩ := h.blk
  have a1 := heap_setCell_same W G (i * 2) cs 44 (d[j]!).av h1
  have a2 := heap_setCell_same _ G (i * 2 + 1) _ 44 (d[j]!).wv a1
  have a3 := heap_setCell_same _ G (j * 2) _ 44 (d[i]!).av a2
  have a4 := heap_setCell_same _ G (j * 2 + 1) _ 44 (d[i]!).wv a3
  refine ⟨(((h.below.setCell h.ge _).setCell h.ge _).setCell h.ge _).setCell h.ge _, h.ge, ⟨_, a4, by simpa [Go.Sort.size_swp] using hs, fun k hk => ?_⟩, fun k hk => ?_⟩
  · rw [Go.Sort.size_swp] at hk
    rw [swp_get d i j k hi hj]
    obtain ⟨c0, c1⟩ := h2 k hk
    have s0 : k * 2 < cs.size := by omega
    have s1 : k * 2 + 1 < cs.size := by omega
    simp only [Array.getElem?_setIfInBounds, Array.size_setIfInBounds]
    by_cases e1 : k = j
    · subst e1
      have q : (if k = k then d[i]! else if k = i then d[k]! else d[k]!) = d[i]! := if_pos rfl
      rw [q]
      constructor
      · rw [if_neg (by omega), if_pos rfl, if_pos s0]
      · rw [if_pos rfl, if_pos s1]
    · rw [if_neg e1]
      by_cases e2 : k = i
      · subst e2
        have q : (if k = k then d[j]! else d[k]!) = d[j]! := if_pos rfl
        rw [q]
        constructor
        · rw [if_neg (by omega), if_neg (by omega), if_neg (by omega), if_pos rfl, if_pos s0]
        · rw [if_neg (by omega), if_neg (by omega), if_pos rfl, if_pos s1]
      · rw [if_neg e2]
        constructor
        · rw [if_neg (by omega), if_neg (by omega), if_neg (by omega), if_neg (by omega)]; exact c0
        · rw [if_neg (by omega), if_neg (by omega), if_neg (by omega), if_neg (by omega)]; exact c1
  · rw [Go.Sort.size_swp] at hk
    rw [swp_get d i j k hi hj]
    split
    · exact h.ok i hi
    · split
      · exact h.ok j hj
      · exact h.ok k hk
end
def ltR (x y : RR) : Bool := decide (cmpT x.t y.t < 0)
theorem swoR : Go.Sort.SWO ltR where
  irrefl := fun x => by unfold ltR; rw [cmpT_is.refl]; decide
  trans := fun x y z h k => by
    unfold ltR at *
    rw [decide_eq_true_iff] at *
    exact cmpT_is.trans _ _ _ h k
  ntrans := fun x y z h k => by
    unfold ltR at *
    rw [decide_eq_false_iff_not] at *
    intro hxz
    rcases cmpT_is.total y.t x.t with h1 | h1
    · have := cmpT_is.le_lt h1 hxz
      exact k this
    · exact h h1
end Go.Proofs.YtdibijhaiaiifaaDoor
/- The walk of the library's insertion sort and of swapRange. -/
namespace Go.Proofs.YtdibijhaiaiifaaDoor
open Go.RowKit
open Go.Sort
theorem byArgs_after {W : World} {x y : RR} (hx : RowOk W x) (hy : RowOk W y) (p : After W) : Calls Tryd.prog 73 #[rowV x, rowV y] p.w' fun e w'' => e = .returned (.int .i64 (cmpT x.t y.t)) ∧ ∃ q : After W, w'' = q.w' :=
  After.call (byArgs_any x y p.w' (hx.keep p.ok.below).1 (hy.keep p.ok.below).1)
set_option maxHeartbeats 4000000 in
set_option maxRecDepth 1000000 in
theorem insertion_any (wb : World) (G c a b : Nat) (d : Array RR) (w : World) (S : St wb G d w) (hab : a ≤ b) (hb : b ≤ d.size) (hsz : d.size ≤ 1000000) :
    Calls Tryd.prog 152 #[.slice (some ⟨G, 0, none⟩) d.size c, .int .i64 a, .int .i64 b, .func (.func 73) #[] #[]] w fun e w' => e = .returned (.tuple #[]) ∧ St wb G (Go.Sort.insertionSort ltR d a b) w' := by
  go_enter Tryd.func152, Tryd.ntmps152
  go_wp2
  go_loopg [8] (b - a) (fun g1 vi wr => ∃ (i : Nat) (dk : Array RR), vi = .int .i64 i ∧ a < i ∧ i ≤ b + 1 ∧ b + 1 - i ≤ g1 + 1 ∧ dk.size = d.size ∧ St wb G dk wr ∧ Hid (insOuter ltR a b i dk = insOuter ltR a b (a + 1) d))
  case atStart => exact ⟨a + 1, d, by go_num, by omega, by omega, by omega, rfl, S, rfl⟩
  case round =>
    clear S
    obtain ⟨i, dk, rfl, hai, hib, hg1, hsk, S, HO⟩ := hrel
    by_cases hlt : i < b
    · have hltz : (i : Int) < (b : Int) := by omega
      go_wp2
      go_loopg [9] i (fun g2 vj wr2 => ∃ (j : Nat) (dj : Array RR), vj = .int .i64 j ∧ a ≤ j ∧ j ≤ i ∧ j ≤ g2 ∧ dj.size = d.size ∧ St wb G dj wr2 ∧ Hid (insInner ltR a j dj = insInner ltR a i dk))
      case atStart => exact ⟨i, dk, rfl, by omega, Nat.le_refl _, Nat.le_refl _, hsk, S, rfl⟩
      case round =>
        clear S
        obtain ⟨j, dj, rfl, haj, hji, hg2, hsj, S, HI⟩ := hrel
        have OUT := Lib.hid (fun hs : j ≤ a ∨ ltR dj[j]! dj[j - 1]! = false => show insOuter ltR a b (i + 1) dj = insOuter ltR a b (a + 1) d from by
          rw [← HO.out, insOuter_go _ _ _ _ _ hlt, ← HI.out, insInner_stop _ _ _ _ hs])
        by_cases hja : a < j
        · obtain ⟨jp, hjp⟩ : ∃ jp, j = jp + 1 := ⟨j - 1, by omega⟩
          have hjd : j < dj.size := by omega
          have hpd : jp < dj.size := by omega
          obtain ⟨a0, a1⟩ := S.cells hjd
          obtain ⟨b0, b1⟩ := S.cells hpd
          have rx := S.row hjd
          have ry := S.row hpd
          have S2 := Lib.hid (fun W (hS : St wb G dj W) => hS.swap (i := j) (j := jp) hjd hpd)
          have INN := Lib.hid (fun h : ltR dj[j]! dj[jp]! = true => insInner_go ltR a j dj hja (by rw [hjp] at h ⊢; simpa using h))
          rw [show j - 1 = jp by omega] at OUT INN
          generalize hxj : dj[j]! = x at *
          generalize hxp : dj[jp]! = y at *
          have hja' : (a : Int) < (j : Int) := by omega
          have jz : (j : Int) < (d.size : Int) := by omega
          have jz1 : (j : Int) - 1 < (d.size : Int) := by omega
          have jz2 : (1 : Int) ≤ (j : Int) := by omega
          have jz3 : ((j : Int) - 1).toNat = jp := by omega
          have jw : IntKind.i64.wrap ((j : Int) - 1) = (j : Int) - 1 := by rw [IntKind.wrap_i64]; omega
          replace a0 := After.cell a0
          replace a1 := After.cell a1
          replace b0 := After.cell b0
          replace b1 := After.cell b1
          obtain ⟨r, hr⟩ : ∃ r, cmpT x.t y.t = r := ⟨_, rfl⟩
          have HJP := Lib.hid hjp
          clear hjp
          go_upto_region 4 with fail
          refine wp_region_after (by kernel_rfl) (by kernel_rfl) ?_
          repeat (quiet_step ((go_at_call 73; exact byArgs_after rx ry _)))
          refine wpQuiet_nil ?_
          intro w2 hg2
          replace S := S.grew hg2
          clear a0 a1 b0 b1
          by_cases hlv : r < 0
          · have HN := Lib.hid (INN.out (by unfold ltR; rw [hr]; exact decide_eq_true hlv))
            obtain ⟨a0, a1⟩ := S.cells hjd
            obtain ⟨b0, b1⟩ := S.cells hpd
            rw [hxj] at a0 a1
            rw [hxp] at b0 b1
            have f0 := S.free (j * 2)
            have f1 := S.free (j * 2 + 1)
            have f2 := S.free (jp * 2)
            have f3 := S.free (jp * 2 + 1)
            have S3 := Lib.hid (S2.out _ S)
            go_upto_region 6 with fail
            go_region
            replace S3 := S3.out.grew (Grew.refl _).drew
            clear a0 a1 b0 b1 f0 f1 f2 f3 S
            generalize World.drew _ = w3 at S3 ⊢
            go_wp2
            go_roundg jp
            case measure => have := HJP.out; omega
            case rel => exact ⟨jp, swp dj j jp, by go_num, by have := HJP.out; omega, by have := HJP.out; omega, Nat.le_refl _, by rw [size_swp]; exact hsj, S3, Lib.hid (by rw [← HI.out, HN.out])⟩
          · have HN := Lib.hid (OUT.out (.inr (by unfold ltR; rw [hr]; exact decide_eq_false hlv)))
            go_wp2
            go_roundg (b - (i + 1))
            case measure => omega
            case rel => exact ⟨i + 1, dj, by go_num, by omega, by omega, by omega, hsj, S, HN⟩
        · have HN := Lib.hid (OUT.out (.inl (by omega)))
          have hjz : decide ((j : Int) > (a : Int)) = false := decide_eq_false (by omega)
          have hjz' : ¬ (a : Int) < (j : Int) := by omega
          go_upto_region 4 with fail
          go_region
          replace S := S.grew (Grew.refl _).drew
          go_wp2
          go_roundg (b - (i + 1))
          case measure => omega
          case rel => exact ⟨i + 1, dj, by go_num, by omega, by omega, by omega, hsj, S, HN⟩
    · have hltz : ¬ (i : Int) < (b : Int) := by omega
      go_wp2
      go_end0
      exact ⟨rfl, by unfold Go.Sort.insertionSort; rw [← HO.out, insOuter_stop _ _ _ _ _ hlt]; exact S⟩
end Go.Proofs.YtdibijhaiaiifaaDoor
/- The walk of the library's swapRange. -/
namespace Go.Proofs.YtdibijhaiaiifaaDoor
open Go.RowKit
open Go.Sort
/-- The first k rounds of swapRange. -/
def swapN (a b : Nat) : Nat → Array RR → Array RR
  | 0, d => d
  | k + 1, d => swp (swapN a b k d) (a + k) (b + k)
theorem size_swapN (a b k : Nat) (d : Array RR) : (swapN a b k d).size = d.size := by
  induction k with
  | zero => rfl
  | succ k ih => rw [swapN, size_swp, ih]
set_option maxHeartbeats 4000000 in
set_option maxRecDepth 1000000 in
theorem swapRange_any (wb : World) (G c a b n : Nat) (d : Array RR) (w : World) (S : St wb G d w) (hne : a ≠ b) (ha : a + n ≤ d.size) (hb : b + n ≤ d.size) (hsz : d.size ≤ 1000000) :
    Calls Tryd.prog 157 #[.slice (some ⟨G, 0, none⟩) d.size c, .int .i64 a, .int .i64 b, .int .i64 n, .func (.func 73) #[] #[]] w fun e w' => e = .returned (.tuple #[]) ∧ St wb G (swapN a b n d) w' := by
  go_enter Tryd.func157, Tryd.ntmps157
  go_wp2
  go_loopg [10] n (fun g1 vi wr => ∃ k : Nat, vi = .int .i64 k ∧ k ≤ n ∧ n - k ≤ g1 ∧ St wb G (swapN a b k d) wr)
  case atStart => exact ⟨0, rfl, by omega, by omega, S⟩
  case round =>
    clear S
    obtain ⟨k, rfl, hk, hg, S⟩ := hrel
    by_cases hlt : k < n
    · have hz := size_swapN a b k d
      have hI : a + k < (swapN a b k d).size := by omega
      have hJ : b + k < (swapN a b k d).size := by omega
      have S3 := S.swap hI hJ
      obtain ⟨a0, a1⟩ := S.cells hI
      obtain ⟨b0, b1⟩ := S.cells hJ
      have f0 := S.free ((a + k) * 2)
      have f1 := S.free ((a + k) * 2 + 1)
      have f2 := S.free ((b + k) * 2)
      have f3 := S.free ((b + k) * 2 + 1)
      have NX : swapN a b (k + 1) d = swp (swapN a b k d) (a + k) (b + k) := rfl
      rw [← NX] at S3
      have n1 : ¬ (a + k) * 2 = (b + k) * 2 := by omega
      have n2 : ¬ (b + k) * 2 = (a + k) * 2 := by omega
      have n3 : ¬ (b + k) * 2 = (a + k) * 2 + 1 := by omega
      have n4 : ¬ (a + k) * 2 + 1 = (b + k) * 2 := by omega
      have n5 : ¬ (b + k) * 2 + 1 = (a + k) * 2 := by omega
      have n6 : ¬ (a + k) * 2 = (b + k) * 2 + 1 := by omega
      have n7 : ¬ a + k = b + k := by omega
      have n8 : ¬ b + k = a + k := by omega
      have n9 : ¬ a = b := hne
      have n10 : ¬ b = a := fun e => hne e.symm
      have i1 : (a : Int) + k < (d.size : Int) := by omega
      have j1 : (b : Int) + k < (d.size : Int) := by omega
      have i2 : 0 ≤ (a : Int) + k := by omega
      have j2 : 0 ≤ (b : Int) + k := by omega
      have i3 : ((a : Int) + k).toNat = a + k := by omega
      have j3 : ((b : Int) + k).toNat = b + k := by omega
      generalize (swapN a b k d)[a + k]! = x at *
      generalize (swapN a b k d)[b + k]! = y at *
      have hkn : (k : Int) < (n : Int) := by omega
      clear NX hz
      go_upto_region 3 with fail
      go_region
      replace S3 := S3.grew (Grew.refl _).drew
      clear a0 a1 b0 b1 f0 f1 f2 f3 S
      generalize World.drew _ = w3 at S3 ⊢
      go_wp2
      go_roundg (n - (k + 1))
      case measure => omega
      case rel => exact ⟨k + 1, by go_num, by omega, by omega, S3⟩
    · have hkn : ¬ (k : Int) < (n : Int) := by omega
      have e : k = n := by omega
      subst e
      go_wp2
      go_end0
      exact ⟨rfl, S⟩
end Go.Proofs.YtdibijhaiaiifaaDoor
/- The walk of the library's rotate. -/
namespace Go.Proofs.YtdibijhaiaiifaaDoor
open Go.RowKit
open Go.Sort
/-- What an exchange of two parts that lie apart does. -/
theorem swapN_get {a b : Nat} {d : Array RR} : ∀ n, (a + n ≤ b ∨ b + n ≤ a) → a + n ≤ d.size → b + n ≤ d.size → ∀ x, (swapN a b n d)[x]! = if a ≤ x ∧ x < a + n then d[b + (x - a)]! else if b ≤ x ∧ x < b + n then d[a + (x - b)]! else d[x]! := by
  intro n
  induction n with
  | zero => intro _ _ _ x; rw [if_neg (by omega), if_neg (by omega)]; rfl
  | succ n ih =>
    intro h ha hb x
    have ih := ih (by omega) (by omega) (by omega)
    rw [swapN, swp_get _ _ _ _ (by rw [size_swapN]; omega) (by rw [size_swapN]; omega), ih (a + n), ih (b + n), ih x]
    rw [if_neg (show ¬ (a ≤ a + n ∧ a + n < a + n) by omega), if_neg (show ¬ (b ≤ a + n ∧ a + n < b + n) by omega), if_neg (show ¬ (a ≤ b + n ∧ b + n < a + n) by omega), if_neg (show ¬ (b ≤ b + n ∧ b + n < b + n) by omega)]
    by_cases h1 : x = b + n
    · subst h1
      rw [if_pos rfl, if_neg (by omega), if_pos (by omega), show a + (b + n - b) = a + n by omega]
    · rw [if_neg h1]
      by_cases h2 : x = a + n
      · subst h2
        rw [if_pos rfl, if_pos (by omega), show b + (a + n - a) = b + n by omega]
      · rw [if_neg h2]
        by_cases h3 : a ≤ x ∧ x < a + n
        · rw [if_pos h3, if_pos (show a ≤ x ∧ x < a + (n + 1) by omega)]
        · rw [if_neg h3, if_neg (show ¬ (a ≤ x ∧ x < a + (n + 1)) by omega)]
          by_cases h4 : b ≤ x ∧ x < b + n
          · rw [if_pos h4, if_pos (show b ≤ x ∧ x < b + (n + 1) by omega)]
          · rw [if_neg h4, if_neg (show ¬ (b ≤ x ∧ x < b + (n + 1)) by omega)]
theorem swapN_perm {lo hi a b : Nat} {d : Array RR} (hh : hi ≤ d.size) (h1 : lo ≤ a) (h2 : lo ≤ b) : ∀ n, a + n ≤ hi → b + n ≤ hi → PermIn lo hi d (swapN a b n d) := by
  intro n
  induction n with
  | zero => intro _ _; exact permIn_refl _ _ _
  | succ n ih =>
    intro ha hb
    exact permIn_trans _ _ _ _ _ (ih (by omega) (by omega)) (swp_permIn _ _ _ _ _ (by omega) (by omega) (by omega) (by omega) (by rw [size_swapN]; exact hh))
/-- The two parts around m, i and j long, have changed places. -/
structure Rot (m i j : Nat) (d d' : Array RR) : Prop where
  size : d'.size = d.size
  left : ∀ t, t < j → d'[m - i + t]! = d[m + t]!
  right : ∀ t, t < i → d'[m - i + j + t]! = d[m - i + t]!
  out : ∀ x, x < m - i ∨ m + j ≤ x → d'[x]! = d[x]!
  perm : PermIn (m - i) (m + j) d d'
theorem rot_same {m i : Nat} {d : Array RR} (hi : i ≤ m) (hb : m + i ≤ d.size) : Rot m i i d (swapN (m - i) m i d) := by
  have g := swapN_get (a := m - i) (b := m) (d := d) i (by omega) (by omega) hb
  refine ⟨size_swapN _ _ _ _, fun t ht => ?_, fun t ht => ?_, fun x hx => ?_, swapN_perm hb (by omega) (by omega) _ (by omega) (by omega)⟩
  · rw [g, if_pos (by omega), show m + (m - i + t - (m - i)) = m + t by omega]
  · rw [g, if_neg (by omega), if_pos (by omega), show m - i + (m - i + i + t - m) = m - i + t by omega]
  · rw [g, if_neg (by omega), if_neg (by omega)]
theorem rot_big {m i j : Nat} {d d' : Array RR} (hi : i ≤ m) (hji : j < i) (hb : m + j ≤ d.size) (h : Rot m (i - j) j (swapN (m - i) m j d) d') : Rot m i j d d' := by
  have g := swapN_get (a := m - i) (b := m) (d := d) j (by omega) (by omega) hb
  refine ⟨h.size.trans (size_swapN _ _ _ _), fun t ht => ?_, fun t ht => ?_, fun x hx => ?_, permIn_trans _ _ _ _ _ (swapN_perm hb (by omega) (by omega) _ (by omega) (by omega)) (permIn_mono _ _ _ _ _ _ (by omega) (by omega) (by rw [size_swapN]; exact hb) h.perm)⟩
  · rw [h.out _ (by omega), g, if_pos (by omega), show m + (m - i + t - (m - i)) = m + t by omega]
  · by_cases h1 : t < j
    · have := h.left t h1
      rw [show m - (i - j) + t = m - i + j + t by omega] at this
      rw [this, g, if_neg (by omega), if_pos (by omega), show m - i + (m + t - m) = m - i + t by omega]
    · have := h.right (t - j) (by omega)
      rw [show m - (i - j) + j + (t - j) = m - i + j + t by omega, show m - (i - j) + (t - j) = m - i + t by omega] at this
      rw [this, g, if_neg (by omega), if_neg (by omega)]
  · rw [h.out _ (by omega), g, if_neg (by omega), if_neg (by omega)]
theorem rot_small {m i j : Nat} {d d' : Array RR} (hi : i ≤ m) (hij : i < j) (hb : m + j ≤ d.size) (h : Rot m i (j - i) (swapN (m - i) (m + j - i) i d) d') : Rot m i j d d' := by
  have g := swapN_get (a := m - i) (b := m + j - i) (d := d) i (by omega) (by omega) (by omega)
  refine ⟨h.size.trans (size_swapN _ _ _ _), fun t ht => ?_, fun t ht => ?_, fun x hx => ?_, permIn_trans _ _ _ _ _ (swapN_perm hb (by omega) (by omega) _ (by omega) (by omega)) (permIn_mono _ _ _ _ _ _ (by omega) (by omega) (by rw [size_swapN]; exact hb) h.perm)⟩
  · by_cases h1 : t < j - i
    · rw [h.left t h1, g, if_neg (by omega), if_neg (by omega)]
    · have := h.right (t - (j - i)) (by omega)
      rw [show m - i + (j - i) + (t - (j - i)) = m - i + t by omega, show m - i + (t - (j - i)) = m - i + (t - (j - i)) from rfl] at this
      rw [this, g, if_pos (by omega), show m + j - i + (m - i + (t - (j - i)) - (m - i)) = m + t by omega]
  · rw [h.out _ (by omega), g, if_neg (by omega), if_pos (by omega), show m - i + (m - i + j + t - (m + j - i)) = m - i + t by omega]
  · rw [h.out _ (by omega), g, if_neg (by omega), if_neg (by omega)]
set_option maxHeartbeats 4000000 in
set_option maxRecDepth 1000000 in
theorem rotate_any (wb : World) (G c a m b : Nat) (d : Array RR) (w : World) (S : St wb G d w) (ham : a < m) (hmb : m < b) (hb : b ≤ d.size) (hsz : d.size ≤ 1000000) :
    Calls Tryd.prog 156 #[.slice (some ⟨G, 0, none⟩) d.size c, .int .i64 a, .int .i64 m, .int .i64 b, .func (.func 73) #[] #[]] w fun e w' => e = .returned (.tuple #[]) ∧ ∃ d', St wb G d' w' ∧ Rot m (m - a) (b - m) d d' := by
  go_enter Tryd.func156, Tryd.ntmps156
  go_wp2
  go_loopg [10, 11] (b - a) (fun g vi vj wr => ∃ (i j : Nat) (dk : Array RR), vi = .int .i64 i ∧ vj = .int .i64 j ∧ 0 < i ∧ 0 < j ∧ i ≤ m ∧ m + j ≤ d.size ∧ i + j ≤ g ∧ dk.size = d.size ∧ St wb G dk wr ∧ Hid (∀ d', Rot m i j dk d' → Rot m (m - a) (b - m) d d'))
  case atStart => exact ⟨m - a, b - m, d, by congr 1; omega, by congr 1; omega, by omega, by omega, by omega, by omega, by omega, rfl, S, Lib.hid fun _ h => h⟩
  case round =>
    clear S
    obtain ⟨i, j, dk, rfl, rfl, hi0, hj0, him, hmj, hg, hs, S, HR⟩ := hrel
    have q1 : (m : Int) - i = ((m - i : Nat) : Int) := by omega
    by_cases hij : i = j
    · subst hij
      have hne : ((i : Int) != (i : Int)) = false := by simp
      have HX := Lib.hid (HR.out _ (rot_same (d := dk) him (by omega)))
      go_wp2_with fail
      have hC := swapRange_any wb G c (m - i) m i dk _ S (by omega) (by omega) (by omega) (by omega)
      rw [hs] at hC
      refine hC.mono ?_
      rintro e w1 ⟨rfl, S1⟩
      go_wp2
      go_end0
      exact ⟨rfl, _, S1, HX.out⟩
    · have hne : ((i : Int) != (j : Int)) = true := by rw [bne_iff_ne]; omega
      by_cases hlt : j < i
      · have hgt : (j : Int) < (i : Int) := by omega
        have HX := Lib.hid (fun d' h => HR.out d' (rot_big (d := dk) him hlt (by omega) h))
        go_wp2_with fail
        have hC := swapRange_any wb G c (m - i) m j dk _ S (by omega) (by omega) (by omega) (by omega)
        rw [hs] at hC
        refine hC.mono ?_
        rintro e w1 ⟨rfl, S1⟩
        go_wp2
        go_roundg (i - j + j)
        case measure => omega
        case rel => exact ⟨i - j, j, _, by congr 1; omega, rfl, by omega, hj0, by omega, by omega, Nat.le_refl _, by rw [size_swapN]; exact hs, S1, HX⟩
      · have hgt : ¬ (j : Int) < (i : Int) := by omega
        have hlt2 : i < j := by omega
        have q2 : (m : Int) + j - i = ((m + j - i : Nat) : Int) := by omega
        have HX := Lib.hid (fun d' h => HR.out d' (rot_small (d := dk) him hlt2 (by omega) h))
        go_wp2_with fail
        have hC := swapRange_any wb G c (m - i) (m + j - i) i dk _ S (by omega) (by omega) (by omega) (by omega)
        rw [hs] at hC
        refine hC.mono ?_
        rintro e w1 ⟨rfl, S1⟩
        go_wp2
        go_roundg (i + (j - i))
        case measure => omega
        case rel => exact ⟨i, j - i, _, rfl, by congr 1; omega, hi0, by omega, him, by omega, Nat.le_refl _, by rw [size_swapN]; exact hs, S1, HX⟩
end Go.Proofs.YtdibijhaiaiifaaDoor
