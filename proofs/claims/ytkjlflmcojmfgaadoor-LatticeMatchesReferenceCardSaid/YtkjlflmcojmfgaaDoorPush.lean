/- Numbers pushed beside other slices of the call's own. -/
import Derived.Test.YtkjlflmcojmfgaaDoorWo
namespace Go.Proofs.YtkjlflmcojmfgaaDoor
open Go.RowKit
def castI (l : List Nat) : List Int := l.map fun (a : Nat) => (a : Int)
theorem castI_length (l : List Nat) : (castI l).length = l.length := by simp [castI]
theorem castI_snoc (l : List Nat) (a : Nat) : castI (l ++ [a]) = castI l ++ [(a : Int)] := by simp [castI]
/-- Two slices in blocks of their own. -/
def Dis (u v : Value) : Prop := ∀ k, u.ownBlock = some k → v.ownBlock ≠ some k
theorem OwnI.kept {w w' : World} {base : Nat} {v : Value} {l : List Int} {row : Option Nat} (h : OwnI w base v l) (hg : w.grownBy w' row) (hne : ∀ k, v.ownBlock = some k → row ≠ some k) : OwnI w' base v l :=
  World.ownsRow.kept h hg (by
    cases hb : v.ownBlock with
    | none => exact .inl rfl
    | some k => exact .inr fun e => hne k hb e.symm)
theorem OwnI.lt {w : World} {base : Nat} {v : Value} {l : List Int} (h : OwnI w base v l) {k : Nat} (hk : v.ownBlock = some k) : base ≤ k ∧ k < w.heap.size := World.ownsRow.lt h k hk
theorem run_pushJ {wr w : World} {base : Nat} {v : Value} {l : List Int} {g1 : Nat} {x : Int} {ty : TypeId} (hO : OwnI wr base v l) (hb : Below wr.heap.size wr w) (hblk : w.heap[g1]? = some (.cells #[.int .i64 x] 3 (0, 0))) (hbase : base ≤ wr.heap.size) (hL : l.length ≤ 1000000) :
    ∃ g cap w', (Builtin.append_ #[26, 26] ty #[v, .slice (some ⟨g1, 0, none⟩) 1 1]).run Tryd.prog w = .ok (.slice (some ⟨g, 0, none⟩) (l.length + 1) cap) w' ∧ OwnI w' base (.slice (some ⟨g, 0, none⟩) (l.length + 1) cap) (l ++ [x]) ∧ Below base wr w' ∧ wr.grownBy w' v.ownBlock ∧ (v.ownBlock = some g ∨ wr.heap.size ≤ g) := by
  obtain ⟨i0, hi, hz0, hz1, hz2⟩ := info_parts' info3
  have hown : w.ownsRow base 3 1 v l.length (intsV l) := own_keep hO hb
  obtain ⟨v', w', hrun, h2, hg, -, hat⟩ := run_append_own_at (P := Tryd.prog) w base 26 ty 3 i0 (.int .i64 0) 1 8 Tryd.underlying26 hi hz0 hz1 hz2 rfl (by decide) v l.length (intsV l) hown ⟨g1, 0, none⟩ 1 1 [.int .i64 x] rfl
    (fun j y hj => by
      have hj0 : j = 0 := by have := (List.getElem?_eq_some_iff.1 hj).1; simpa using this
      subst hj0
      simp at hj; subst hj
      have : w.cell? ⟨g1, 0, none⟩ = some (.int .i64 x) := cell_at hblk rfl
      simpa [Addr.add] using this) (by intro y hy; simp at hy; subst hy; rfl) (by unfold maxLen; omega) (by omega) (by have := hb.size; omega)
  have e : intsV l ++ [.int .i64 x] = intsV (l ++ [x]) := by simp [intsV]
  rw [e] at h2
  have bb : Below base wr w' := (hb.mono hbase).trans ⟨hg.os, hg.tape, hg.output, hg.size, fun k hk => hg.block k (by have := hb.size; omega) fun e => by have := (hO.lt e.symm).1; omega⟩
  have gg : wr.grownBy w' v.ownBlock := ⟨hg.os.trans hb.os, hg.tape.trans hb.tape, hg.output.trans hb.output, Nat.le_trans hb.size hg.size, fun k hk hne => (hg.block k (Nat.lt_of_lt_of_le hk hb.size) hne).trans (hb.block k hk)⟩
  rcases h2.2 with ⟨rfl, h0⟩ | ⟨g, cap, cur, e1, _⟩
  · omega
  · subst e1
    refine ⟨g, cap, w', hrun, by unfold OwnI; rw [List.length_append]; exact h2, bb, gg, ?_⟩
    rcases hat with h | h
    · left; rw [← h]; rfl
    · right
      have : g = w.heap.size := by simpa [Value.ownBlock] using h
      have := hb.size
      omega
theorem wpList_pushJ {wr w : World} {ops : Array Oper} {rest : List Oper} {o : Oper} {a : Act} {Q : Exit → Act → World → Prop} (hgd : o.guard = none) (s y : Operand) (ho : o.op = .call { callee := .builtin .append, args := #[s, y], argTypes := #[26, 26] })
    {base : Nat} {v : Value} {l : List Int} {g1 : Nat} {x : Int} (hs : a.eval s = v) (hy : a.eval y = .slice (some ⟨g1, 0, none⟩) 1 1) (hO : OwnI wr base v l) (hb : Below wr.heap.size wr w) (hblk : w.heap[g1]? = some (.cells #[.int .i64 x] 3 (0, 0))) (hbase : base ≤ wr.heap.size) (hL : l.length ≤ 1000000)
    (h : ∀ g cap w', OwnI w' base (.slice (some ⟨g, 0, none⟩) (l.length + 1) cap) (l ++ [x]) → Below base wr w' → wr.grownBy w' v.ownBlock → (v.ownBlock = some g ∨ wr.heap.size ≤ g) → wpList Tryd.prog ops Q rest (a.put o.dst (.slice (some ⟨g, 0, none⟩) (l.length + 1) cap)) w') : wpList Tryd.prog ops Q (o :: rest) a w :=
  wpList_plain hgd fun K hK => by
    obtain ⟨g, cap, w', hr, h2, h3, h4, h5⟩ := run_pushJ (ty := o.type) hO hb hblk hbase hL
    unfold Oper.wp execOp
    simp only [ho, resolve, invoke, builtin, Sem.run_bind, Sem.run_pure, Result.andThen_ok, List.map_toArray, List.map_cons, List.map_nil, hs, hy, hr]
    exact hK _ _ (h g cap w' h2 h3 h4 h5)
theorem step_pushJ {wr w : World} {ops : Array Oper} {o : Oper} {a : Act} {K : Act → World → Prop} {Q : Exit → Act → World → Prop} {E : Prop} (hgd : o.guard = none) (s y : Operand) (ho : o.op = .call { callee := .builtin .append, args := #[s, y], argTypes := #[26, 26] })
    {base : Nat} {v : Value} {l : List Int} {g1 : Nat} {x : Int} (hs : a.eval s = v) (hy : a.eval y = .slice (some ⟨g1, 0, none⟩) 1 1) (hO : OwnI wr base v l) (hb : Below wr.heap.size wr w) (hblk : w.heap[g1]? = some (.cells #[.int .i64 x] 3 (0, 0))) (hbase : base ≤ wr.heap.size) (hL : l.length ≤ 1000000)
    (h : ∀ g cap w', OwnI w' base (.slice (some ⟨g, 0, none⟩) (l.length + 1) cap) (l ++ [x]) → Below base wr w' → wr.grownBy w' v.ownBlock → (v.ownBlock = some g ∨ wr.heap.size ≤ g) → K (a.put o.dst (.slice (some ⟨g, 0, none⟩) (l.length + 1) cap)) w') : if Region.wanted o (yielded ops a.tmps) = true then Oper.wp Tryd.prog o a w K Q else E := by
  have hw : Region.wanted o (yielded ops a.tmps) = true := by simp [Region.wanted, hgd]
  rw [if_pos hw]
  obtain ⟨g, cap, w', hr, h2, h3, h4, h5⟩ := run_pushJ (ty := o.type) hO hb hblk hbase hL
  unfold Oper.wp execOp
  simp only [ho, resolve, invoke, builtin, Sem.run_bind, Sem.run_pure, Result.andThen_ok, List.map_toArray, List.map_cons, List.map_nil, hs, hy, hr]
  exact h g cap w' h2 h3 h4 h5
theorem Dis.pushed {u v : Value} {w : World} {base g n c : Nat} {l : List Int} (h : Dis v u) (hu : OwnI w base u l) (hg : v.ownBlock = some g ∨ w.heap.size ≤ g) : Dis (.slice (some ⟨g, 0, none⟩) n c) u := by
  intro k hk e
  obtain rfl : g = k := by simpa [Value.ownBlock] using hk
  rcases hg with hg | hg
  · exact h g hg e
  · have := (hu.lt e).2; omega
theorem Dis.symm {u v : Value} (h : Dis u v) : Dis v u := fun k hk e => h k e hk
theorem dis_lits (w : World) (t : TypeId) : Dis (.slice (some ⟨w.heap.size, 0, none⟩) 0 0) (.slice (some ⟨(w.alloc (.cells #[] t)).heap.size, 0, none⟩) 0 0) := by
  intro k hk e
  have h1 : w.heap.size = k := by simpa [Value.ownBlock] using hk
  have h2 : w.heap.size + 1 = k := by simpa [Value.ownBlock] using e
  omega
end Go.Proofs.YtkjlflmcojmfgaaDoor
