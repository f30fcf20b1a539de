/- Appends of numbers in a region that draws its order, each in any order among the others. -/
import Derived.Test.YtnibgmmoebmnlaaLaw7
import Derived.Test.YtnibgmmoebmnlaaApp
namespace Go.Proofs.Ytnibgmmoebmnlaa
open Go.RowKit
/-- A block that the call made since w0; it holds the numbers l, no more. -/
def IntsBlk (w0 w : World) (b : Nat) (l : List Int) : Prop := w0.heap.size ≤ b ∧ w.heap[b]? = some (.cells (l.flatMap encI).toArray 3 (0, 0))
theorem IntsBlk.lt {w0 w : World} {b : Nat} {l : List Int} (h : IntsBlk w0 w b l) : b < w.heap.size := (Array.getElem?_eq_some_iff.1 h.2).1
theorem IntsBlk.new {w0 w : World} (b : Nat) (l : List Int) (hb0 : Below w0.heap.size w0 w) (hb : b = w.heap.size) : IntsBlk w0 (w.alloc (.cells (l.flatMap encI).toArray 3)) b l := hb ▸ ⟨hb0.size, heap_alloc_new w _⟩
theorem blk0_new {w0 w : World} {b : Nat} (hb0 : Below w0.heap.size w0 w) (hb : b = w.heap.size) : IntsBlk w0 (w.alloc (.cells #[] 3)) b [] := IntsBlk.new b [] hb0 hb
theorem blk1_new {w0 w : World} {b : Nat} {n : Int} (hb0 : Below w0.heap.size w0 w) (hb : b = w.heap.size) : IntsBlk w0 (w.alloc (.cells #[.int .i64 n] 3)) b [n] := IntsBlk.new b [n] hb0 hb
theorem blk_alloc {w0 w : World} {b : Nat} {l : List Int} {o : Obj} (h : IntsBlk w0 w b l) : IntsBlk w0 (w.alloc o) b l := ⟨h.1, ((below_new w o).block b h.lt).trans h.2⟩
theorem blk_drew {w0 w : World} {b : Nat} {l : List Int} (h : IntsBlk w0 w b l) : IntsBlk w0 w.drew b l := h
theorem blk_step {w0 w w' : World} {b : Nat} {l : List Int} (hb : Below w.heap.size w w') (h : IntsBlk w0 w b l) : IntsBlk w0 w' b l := ⟨h.1, (hb.block b h.lt).trans h.2⟩
theorem own_alloc {w : World} {base : Nat} {v : Value} {l : List Int} {o : Obj} (h : OwnInts w base v l) : OwnInts (w.alloc o) base v l := World.ownsRow.alloc h o
theorem own_drew {w : World} {base : Nat} {v : Value} {l : List Int} (h : OwnInts w base v l) : OwnInts w.drew base v l := World.ownsRow.drew h
theorem own_step {w w' : World} {base : Nat} {v : Value} {l : List Int} (hb : Below w.heap.size w w') (h : OwnInts w base v l) : OwnInts w' base v l := World.ownsRow.kept h (grown_none hb none) (by cases v.ownBlock <;> simp)
theorem IntsBlk.is {w0 w : World} {b : Nat} {l : List Int} {n c : Nat} (h : IntsBlk w0 w b l) (hn : n = l.length) (hm : l.length ≤ 9223372036854775807) : IsInts w (.slice (some ⟨b, 0, none⟩) n c) l := by
  subst hn
  refine ⟨_, _, rfl, .inr ⟨_, _, rfl, fun i x hi j u hj => ?_⟩, hm⟩
  rw [cell_of_row _ b _ _ 3 (0, 0) h.2]
  have := flat_get (k := 1) (enc := encI) l (fun _ _ => rfl) i x hi j u hj
  simpa using this
section
variable {w0 w : World} {ops : Array Oper} {o : Oper} {a : Act} {K : Act → World → Prop} {Q : Exit → Act → World → Prop} {E : Prop}
theorem ints_oneCell (l : List Int) : ∀ y ∈ l, ∀ u ∈ encI y, u.oneCell' = true := by
  intro y _ u hu
  simp only [encI, List.mem_singleton] at hu
  subst hu; rfl
/-- append([]int{}, x...) -/
theorem app0_ts (hw : Region.wanted o (yielded ops a.tmps) = true) (s y : Operand) (ho : o.op = .call { callee := .builtin .append, args := #[s, y], argTypes := #[29, 29] }) (hb : Below w0.heap.size w0 w) {b : Nat}
    (hs : a.eval s = .slice (some ⟨b, 0, none⟩) 0 0) (hblk : IntsBlk w0 w b []) {x : Value} {l : List Int} (hx' : a.eval y = x) (hx : IsInts w x l) (hl : l.length ≤ 1000)
    (k : ∀ v' w', Below w0.heap.size w0 w' → OwnInts w' w0.heap.size v' l → (∀ b' m, m ≠ [] → IntsBlk w0 w b' m → IntsBlk w0 w' b' m) → K (a.put o.dst v') w') : if Region.wanted o (yielded ops a.tmps) = true then Oper.wp Try.prog o a w K Q else E := by
  obtain ⟨i1, hi', hz0', hz1', hz2'⟩ := info_parts info3'
  have hown : w.ownsRow w0.heap.size 3 1 (.slice (some ⟨b, 0, none⟩) 0 0) 0 [] := ⟨rfl, .inr ⟨b, 0, _, rfl, hblk.1, hblk.2, Nat.le_refl _, by decide, rfl, rfl⟩⟩
  refine step_append_rows hw encI s y 29 ho w0.heap.size 3 i1 (.int .i64 0) 1 8 Try.underlying29 hi' hz0' hz1' hz2' rfl (by decide) _ 0 [] hs hown x l hx' hx (fun _ _ => rfl) (ints_oneCell l) (by unfold maxLen; omega) (by omega) hb.size ?_
  intro v' w' hown' hgrow _
  refine k v' w' (hb.grown hgrow hb.size (fun i hi => by
    have : b = i := by simpa [Value.ownBlock] using hi
    have := hblk.1
    omega)) (by unfold OwnInts; simpa using hown') (fun b' m hm h' => ⟨h'.1, (hgrow.block b' h'.lt (fun e => ?_)).trans h'.2⟩)
  have e' : b' = b := by simpa [Value.ownBlock] using e
  subst e'
  have := h'.2.symm.trans hblk.2
  cases m with
  | nil => exact hm rfl
  | cons a r => simp [encI] at this
/-- append(v, n), n in a block of its own -/
theorem app1_ts (hw : Region.wanted o (yielded ops a.tmps) = true) (s y : Operand) (ho : o.op = .call { callee := .builtin .append, args := #[s, y], argTypes := #[29, 29] }) (hb : Below w0.heap.size w0 w) {v : Value} {l : List Int}
    (hs : a.eval s = v) (hown : OwnInts w w0.heap.size v l) {b n c : Nat} {m : List Int} (hx' : a.eval y = .slice (some ⟨b, 0, none⟩) n c) (hblk : IntsBlk w0 w b m) (hn : n = m.length) (hl : l.length + m.length ≤ 1000)
    (k : ∀ v' w', Below w0.heap.size w0 w' → OwnInts w' w0.heap.size v' (l ++ m) → K (a.put o.dst v') w') : if Region.wanted o (yielded ops a.tmps) = true then Oper.wp Try.prog o a w K Q else E := by
  obtain ⟨i1, hi', hz0', hz1', hz2'⟩ := info_parts info3'
  have hvo := own_from hown
  refine step_append_rows hw encI s y 29 ho w0.heap.size 3 i1 (.int .i64 0) 1 8 Try.underlying29 hi' hz0' hz1' hz2' rfl (by decide) v l.length (l.flatMap encI) hs hown _ m hx' (hblk.is hn (by omega)) (fun _ _ => rfl) (ints_oneCell m) (by unfold maxLen; omega) (by omega) hb.size ?_
  intro v' w' hown' hgrow _
  refine k v' w' (hb.grown hgrow hb.size (fun i hi => hvo i hi)) ?_
  unfold OwnInts
  simpa [List.flatMap_append] using hown'
theorem ev_ts {r : Rl} {v : Value} {l : List Nm} {vi : Value} {ord : List Int} {b : Bool} {Q : Ending → World → Prop} (h : RuleOk w r) (hs : IsNames w v l) (ho : IsInts w vi ord) (hf : Fits r) (hl : l.length ≤ 1000) (hb : evaluable (ofList l) r.lits ord = b)
    (k : ∀ w', Below w.heap.size w w' → Q (.returned (.bool b)) w') : Calls Try.prog 19 #[ruleV r, v, vi] w Q :=
  (Evaluable_any r v l vi ord w h hs ho hf hl).mono fun e w' ⟨he, h2⟩ => by subst he; rw [hb]; exact k w' h2
end
/-- A slice at the head of a block reads as it did, as long as that block is what it was. -/
theorem rows_far {α : Type} {k : Nat} {enc : α → List Value} {w w' : World} {g n c : Nat} {l : List α} (h : IsRows k enc w (.slice (some ⟨g, 0, none⟩) n c) l) (hg : w'.heap[g]? = w.heap[g]?) : IsRows k enc w' (.slice (some ⟨g, 0, none⟩) n c) l := by
  obtain ⟨a, c', e, h, hm⟩ := h
  refine ⟨a, c', e, ?_, hm⟩
  simp only [Value.slice.injEq] at e
  obtain ⟨rfl, -, -⟩ := e
  rcases h with h | ⟨b, off, ha, hc⟩
  · exact .inl h
  · refine .inr ⟨b, off, ha, fun i x hi j u hj => ?_⟩
    simp only [Option.some.injEq, Addr.mk.injEq] at ha
    obtain ⟨rfl, rfl, -⟩ := ha
    exact (World.cell?_of_block (a := ⟨g, 0 + i * k + j, none⟩) hg).trans (hc i x hi j u hj)
theorem lits_oneCell {w : World} {l : List Lt} (h : ∀ x ∈ l, LitOk w x) : ∀ y ∈ l, ∀ u ∈ encL y, u.oneCell' = true := by
  intro y hy u hu
  obtain ⟨pa, pc, hqa, -, -⟩ := h y hy
  simp only [encL, hqa, List.mem_cons, List.not_mem_nil, or_false] at hu
  rcases hu with rfl | rfl | rfl | rfl | rfl | rfl | rfl | rfl | rfl <;> rfl
end Go.Proofs.Ytnibgmmoebmnlaa
