/- Slices of numbers that a call owns. -/
import Derived.Test.YtkjlflmcojmfgaaDoorWh
namespace Go.Proofs.YtkjlflmcojmfgaaDoor
open Go.RowKit
theorem info3 : (Tryd.prog.info? 3).map (fun i => (i.zero, i.size, i.bytes)) = some (some (.int .i64 0), 1, 8) := by kernel_rfl
theorem info_parts' {e : TypeId} {z : Value} {s b : Nat} (h : (Tryd.prog.info? e).map (fun i => (i.zero, i.size, i.bytes)) = some (some z, s, b)) : ∃ i, Tryd.prog.info? e = some i ∧ i.zero = some z ∧ i.size = s ∧ i.bytes = b := by
  obtain ⟨i, hi, he⟩ := Option.map_eq_some_iff.1 h
  simp at he
  exact ⟨i, hi, he.1, he.2.1, he.2.2⟩
def intsV (l : List Int) : List Value := l.map fun x => Value.int .i64 x
theorem flat_ints (l : List Int) : l.flatMap encI = intsV l := by
  induction l with
  | nil => rfl
  | cons x r ih => rw [List.flatMap_cons, ih]; rfl
def OwnI (w : World) (base : Nat) (v : Value) (l : List Int) : Prop := w.ownsRow base 3 1 v l.length (intsV l)
theorem own_keep {w w' : World} {base : Nat} {e : TypeId} {size n : Nat} {v : Value} {xs : List Value} (h : w.ownsRow base e size v n xs) (hb : Below w.heap.size w w') : w'.ownsRow base e size v n xs :=
  h.kept (row := none) ⟨hb.os, hb.tape, hb.output, hb.size, fun i hi _ => hb.block i hi⟩ (by cases hv : v.ownBlock <;> simp)
theorem OwnI.keep {w w' : World} {base : Nat} {v : Value} {l : List Int} (h : OwnI w base v l) (hb : Below w.heap.size w w') : OwnI w' base v l := own_keep h hb
theorem OwnI.is {w : World} {base : Nat} {v : Value} {l : List Int} (h : OwnI w base v l) (hm : l.length ≤ 9223372036854775807) : IsInts w v l :=
  IsRows.of_owns (base := base) (e := 3) (by rw [flat_ints]; exact h) (fun _ _ => rfl) hm
theorem OwnI.nil (w : World) (base : Nat) : OwnI w base (.slice none 0 0) [] := World.ownsRow_nil _ _ _ _
theorem OwnI.len {w : World} {base : Nat} {v : Value} {l : List Int} (h : OwnI w base v l) : ∃ a c, v = .slice a l.length c := by
  rcases h.2 with ⟨rfl, h0⟩ | ⟨g, cap, cur, rfl, _⟩
  · exact ⟨none, 0, by rw [h0]⟩
  · exact ⟨_, _, rfl⟩
theorem OwnI.lit (w : World) (l : List Int) (hl : l.length ≤ 1000) : OwnI (w.alloc (.cells (intsV l).toArray 3)) w.heap.size (.slice (some ⟨w.heap.size, 0, none⟩) l.length l.length) l := by
  refine ⟨by simp [intsV], .inr ⟨w.heap.size, l.length, (intsV l).toArray, rfl, Nat.le_refl _, heap_alloc_new w _, Nat.le_refl _, by unfold maxLen; omega, by simp [intsV], by simp only [intsV, Nat.mul_one]; exact List.take_of_length_le (by simp)⟩⟩
theorem run_pushI {wr w : World} {base : Nat} {v : Value} {l : List Int} {g1 : Nat} {x : Int} {ty : TypeId} (hO : OwnI wr base v l) (hb : Below wr.heap.size wr w) (hblk : w.heap[g1]? = some (.cells #[.int .i64 x] 3 (0, 0))) (hbase : base ≤ wr.heap.size) (hL : l.length ≤ 1000000) :
    ∃ g cap w', (Builtin.append_ #[26, 26] ty #[v, .slice (some ⟨g1, 0, none⟩) 1 1]).run Tryd.prog w = .ok (.slice (some ⟨g, 0, none⟩) (l.length + 1) cap) w' ∧ OwnI w' base (.slice (some ⟨g, 0, none⟩) (l.length + 1) cap) (l ++ [x]) ∧ Below base wr w' := by
  obtain ⟨i0, hi, hz0, hz1, hz2⟩ := info_parts' info3
  have hown : w.ownsRow base 3 1 v l.length (intsV l) := own_keep hO hb
  obtain ⟨v', w', hrun, h2, hg, -, -⟩ := run_append_own_at (P := Tryd.prog) w base 26 ty 3 i0 (.int .i64 0) 1 8 Tryd.underlying26 hi hz0 hz1 hz2 rfl (by decide) v l.length (intsV l) hown ⟨g1, 0, none⟩ 1 1 [.int .i64 x] rfl
    (fun j y hj => by
      have hj0 : j = 0 := by have := (List.getElem?_eq_some_iff.1 hj).1; simpa using this
      subst hj0
      simp at hj; subst hj
      have : w.cell? ⟨g1, 0, none⟩ = some (.int .i64 x) := cell_at hblk rfl
      simpa [Addr.add] using this) (by intro y hy; simp at hy; subst hy; rfl) (by unfold maxLen; omega) (by omega) (by have := hb.size; omega)
  have e : intsV l ++ [.int .i64 x] = intsV (l ++ [x]) := by simp [intsV]
  rw [e] at h2
  have bb : Below base wr w' := (hb.mono hbase).trans ⟨hg.os, hg.tape, hg.output, hg.size, fun k hk => hg.block k (by have := hb.size; omega) fun e => by have := (hO.lt k e.symm).1; omega⟩
  rcases h2.2 with ⟨rfl, h0⟩ | ⟨g, cap, cur, e1, _⟩
  · omega
  · subst e1
    exact ⟨g, cap, w', hrun, by unfold OwnI; rw [List.length_append]; exact h2, bb⟩
theorem wpList_pushI {wr w : World} {ops : Array Oper} {rest : List Oper} {o : Oper} {a : Act} {Q : Exit → Act → World → Prop} (hgd : o.guard = none) (s y : Operand) (ho : o.op = .call { callee := .builtin .append, args := #[s, y], argTypes := #[26, 26] })
    {base : Nat} {v : Value} {l : List Int} {g1 : Nat} {x : Int} (hs : a.eval s = v) (hy : a.eval y = .slice (some ⟨g1, 0, none⟩) 1 1) (hO : OwnI wr base v l) (hb : Below wr.heap.size wr w) (hblk : w.heap[g1]? = some (.cells #[.int .i64 x] 3 (0, 0))) (hbase : base ≤ wr.heap.size) (hL : l.length ≤ 1000000)
    (h : ∀ g cap w', OwnI w' base (.slice (some ⟨g, 0, none⟩) (l.length + 1) cap) (l ++ [x]) → Below base wr w' → wpList Tryd.prog ops Q rest (a.put o.dst (.slice (some ⟨g, 0, none⟩) (l.length + 1) cap)) w') : wpList Tryd.prog ops Q (o :: rest) a w :=
  wpList_plain hgd fun K hK => by
    obtain ⟨g, cap, w', hr, h2, h3⟩ := run_pushI (ty := o.type) hO hb hblk hbase hL
    unfold Oper.wp execOp
    simp only [ho, resolve, invoke, builtin, Sem.run_bind, Sem.run_pure, Result.andThen_ok, List.map_toArray, List.map_cons, List.map_nil, hs, hy, hr]
    exact hK _ _ (h g cap w' h2 h3)
end Go.Proofs.YtkjlflmcojmfgaaDoor
