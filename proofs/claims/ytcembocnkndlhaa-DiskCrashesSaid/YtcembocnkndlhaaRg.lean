/- Writes that the reference gathers. -/
import Derived.Test.YtcembocnkndlhaaRc
import Derived.Test.YtcembocnkndlhaaTail
import Derived.Test.YtcembocnkndlhaaWe
namespace Go.Proofs.Ytcembocnkndlhaa
open Go.RowKit
def OwnW (w : World) (base : Nat) (v : Value) (L : List Wt) : Prop :=
  ∃ ps : List (Int × Value), w.ownsRow base 49 2 v L.length (ps.flatMap encW) ∧ ps.length = L.length ∧ ∀ (i : Nat) (p : Int × Value) (x : Wt), ps[i]? = some p → L[i]? = some x → p.1 = x.at_ ∧ OwnB w base p.2 x.data
theorem OwnW.nil (w : World) (base : Nat) : OwnW w base (.slice none 0 0) [] := ⟨[], World.ownsRow_nil _ _ _ _, rfl, by simp⟩
theorem OwnW.keep {w w' : World} {base : Nat} {v : Value} {L : List Wt} (h : OwnW w base v L) (hb : Below w.heap.size w w') : OwnW w' base v L := by
  obtain ⟨ps, h1, h2, h3⟩ := h
  exact ⟨ps, own_keep h1 hb, h2, fun i p x hp hx => ⟨(h3 i p x hp hx).1, (h3 i p x hp hx).2.keep hb⟩⟩
theorem OwnB.store {w : World} {base : Nat} {u : Value} {l : List UInt8} (h : OwnB w base u l) {p : Addr} (hp : p.block < base) (x : Value) : OwnB (w.setCell p x) base u l := ⟨own_store h.1 hp x, h.2⟩
theorem OwnW.store {w : World} {base : Nat} {v : Value} {L : List Wt} (h : OwnW w base v L) {p : Addr} (hp : p.block < base) (u : Value) : OwnW (w.setCell p u) base v L := by
  obtain ⟨ps, h1, h2, h3⟩ := h
  exact ⟨ps, own_store h1 hp u, h2, fun i p' x hp' hx => ⟨(h3 i p' x hp' hx).1, (h3 i p' x hp' hx).2.store hp u⟩⟩
theorem OwnR.store {w : World} {base : Nat} {v : Value} {L : List (List UInt8)} (h : OwnR w base v L) {p : Addr} (hp : p.block < base) (u : Value) : OwnR (w.setCell p u) base v L := by
  obtain ⟨us, h1, h2, h3, h4⟩ := h
  exact ⟨us, own_store h1 hp u, h2, fun i x l hx hl => ⟨(h3 i x l hx hl).1.store hp u, (h3 i x l hx hl).2⟩, h4⟩
theorem OwnW.is {w : World} {base : Nat} {v : Value} {L : List Wt} (h : OwnW w base v L) (hm : L.length ≤ 9223372036854775807) (hl : ∀ x ∈ L, x.data.length ≤ 9223372036854775807) : IsWrites w v L := by
  obtain ⟨ps, h1, h2, h3⟩ := h
  rw [← h2] at h1 hm
  exact ⟨ps, IsRows.of_owns h1 (fun _ _ => rfl) hm, h2, fun i p x hp hx => ⟨(h3 i p x hp hx).1, (h3 i p x hp hx).2.is (hl x (List.mem_of_getElem? hx))⟩⟩
theorem OwnW.len {w : World} {base : Nat} {v : Value} {L : List Wt} (h : OwnW w base v L) : ∃ a c, v = .slice a L.length c ∧ L.length ≤ c ∧ c ≤ 9223372036854775807 := by
  obtain ⟨us, ⟨_, h1⟩, _⟩ := h
  rcases h1 with ⟨rfl, h0⟩ | ⟨g, cap, cur, rfl, _, _, h5, h6, _⟩
  · exact ⟨none, 0, by rw [h0], by omega, by omega⟩
  · exact ⟨_, _, rfl, h5, by unfold maxLen at h6; omega⟩
theorem OwnB.kept {w w' : World} {base : Nat} {u : Value} {l : List UInt8} {row : Option Nat} (h : OwnB w base u l) (hg : w.grownBy w' row) (hne : ∀ b (cs : Array Value), w.heap[b]? = some (.cells cs 5 (0, 0)) → some b ≠ row) : OwnB w' base u l := by
  obtain ⟨g, cap, cur, rfl, _, k2, _⟩ := h.form
  exact ⟨h.1.kept hg (.inr (hne g cur k2)), h.2⟩
theorem box3_set1 {w : World} {g : Nat} {a b c x : Value} {t : TypeId} (h : w.heap[g]? = some (.cells #[a, b, c] t (0, 0))) : (w.setCell ⟨g, 1, none⟩ x).heap[g]? = some (.cells #[a, x, c] t (0, 0)) := by
  simp [World.setCell, Array.getElem?_modify, h]
/-- A write more. -/
theorem run_pushW {wr w : World} {base : Nat} {v : Value} {L : List Wt} {u : Value} {g1 : Nat} {x : Wt} {ty : TypeId} (hO : OwnW wr base v L) (hb : Below wr.heap.size wr w) (hu : OwnB w wr.heap.size u x.data) (hbase : base ≤ wr.heap.size)
    (hblk : w.heap[g1]? = some (.cells #[.int .i64 x.at_, u] 49 (0, 0))) (hL : L.length ≤ 1000000000) :
    ∃ g cap w', (Builtin.append_ #[23, 23] ty #[v, .slice (some ⟨g1, 0, none⟩) 1 1]).run Try.prog w = .ok (.slice (some ⟨g, 0, none⟩) (L.length + 1) cap) w' ∧ OwnW w' base (.slice (some ⟨g, 0, none⟩) (L.length + 1) cap) (L ++ [x]) ∧ Below base wr w' ∧ wr.grownBy w' v.ownBlock := by
  obtain ⟨i0, hi, hz0, hz1, hz2⟩ := info_parts info49
  obtain ⟨ps, k1, k2, k3⟩ := hO
  have hown := own_keep k1 hb
  have hu1 := hu.one
  obtain ⟨g, cap, w', hrun, h2, hg, hat, h5⟩ := run_append_lies (P := Try.prog) w 23 ty base 49 i0 (.agg #[.int .i64 0, .slice none 0 0]) 2 32 Try.underlying23 hi hz0 hz1 hz2 rfl (by decide) v L.length (ps.flatMap encW) hown ⟨g1, 0, none⟩ 1 1 [.int .i64 x.at_, u] rfl
    (fun j y hj => by
      have hj2 : j < 2 := by have := (List.getElem?_eq_some_iff.1 hj).1; simpa using this
      match j, hj2, hj with
      | 0, _, hj => simp at hj; subst hj; exact cell_at hblk rfl
      | 1, _, hj => simp at hj; subst hj; exact cell_at hblk rfl) (by intro y hy; simp at hy; rcases hy with rfl | rfl; exact rfl; exact hu1) (by decide) (by unfold maxLen; omega) (by omega) (by have := hb.size; omega) _ rfl
  have hne : ∀ b (cs : Array Value), w.heap[b]? = some (.cells cs 5 (0, 0)) → some b ≠ v.ownBlock := fun b cs h => not_row h (by decide) hown
  have e : ps.flatMap encW ++ [.int .i64 x.at_, u] = (ps ++ [(x.at_, u)]).flatMap encW := by rw [List.flatMap_append]; rfl
  refine ⟨g, cap, w', hrun, ⟨ps ++ [(x.at_, u)], ?_, by simp [k2], fun i p y hp hy => ?_⟩, ?_, ?_⟩
  · rw [← e, List.length_append]; exact h2
  · rcases Nat.lt_or_ge i ps.length with hi' | hi'
    · rw [List.getElem?_append_left hi'] at hp
      rw [List.getElem?_append_left (by omega)] at hy
      exact ⟨(k3 i p y hp hy).1, ((k3 i p y hp hy).2.keep hb).kept hg hne⟩
    · rw [List.getElem?_append_right hi'] at hp
      rw [List.getElem?_append_right (by omega)] at hy
      have h0 : i - ps.length = 0 := by
        have := (List.getElem?_eq_some_iff.1 hp).1
        simp at this; omega
      rw [← k2, h0] at hy
      rw [h0] at hp
      obtain rfl : (x.at_, u) = p := by simpa using hp
      obtain rfl : x = y := by simpa using hy
      exact ⟨rfl, (hu.kept hg hne).mono hbase⟩
  · refine (hb.mono hbase).trans ⟨hg.os, hg.tape, hg.output, hg.size, fun k hk => hg.block k (by have := hb.size; omega) fun e => ?_⟩
    have := (k1.lt k e.symm).1; omega
  · exact ⟨hg.os.trans hb.os, hg.tape.trans hb.tape, hg.output.trans hb.output, Nat.le_trans hb.size hg.size, fun k hk hne => (hg.block k (Nat.lt_of_lt_of_le hk hb.size) hne).trans (hb.block k hk)⟩
theorem wp_pushW {wr w : World} {o : Oper} {a : Act} {K : Act → World → Prop} {Q : Exit → Act → World → Prop} (s y : Operand) (ho : o.op = .call { callee := .builtin .append, args := #[s, y], argTypes := #[23, 23] })
    {base : Nat} {v : Value} {L : List Wt} {u : Value} {g1 : Nat} {x : Wt} (hs : a.eval s = v) (hy : a.eval y = .slice (some ⟨g1, 0, none⟩) 1 1) (hO : OwnW wr base v L) (hb : Below wr.heap.size wr w) (hu : OwnB w wr.heap.size u x.data) (hbase : base ≤ wr.heap.size)
    (hblk : w.heap[g1]? = some (.cells #[.int .i64 x.at_, u] 49 (0, 0))) (hL : L.length ≤ 1000000000)
    (h : ∀ g cap w', OwnW w' base (.slice (some ⟨g, 0, none⟩) (L.length + 1) cap) (L ++ [x]) → Below base wr w' → K (a.put o.dst (.slice (some ⟨g, 0, none⟩) (L.length + 1) cap)) w') : o.wp Try.prog a w K Q := by
  obtain ⟨g, cap, w', hr, h2, h3, h4⟩ := run_pushW (ty := o.type) hO hb hu hbase hblk hL
  unfold Oper.wp execOp
  simp only [ho, resolve, invoke, builtin, Sem.run_bind, Sem.run_pure, Result.andThen_ok, List.map_toArray, List.map_cons, List.map_nil, hs, hy, hr]
  exact h g cap w' h2 h3
theorem step_pushW {wr w : World} {ops : Array Oper} {o : Oper} {a : Act} {K : Act → World → Prop} {Q : Exit → Act → World → Prop} {E : Prop} (hgd : o.guard = none) (s y : Operand) (ho : o.op = .call { callee := .builtin .append, args := #[s, y], argTypes := #[23, 23] })
    {base : Nat} {v : Value} {L : List Wt} {u : Value} {g1 : Nat} {x : Wt} (hs : a.eval s = v) (hy : a.eval y = .slice (some ⟨g1, 0, none⟩) 1 1) (hO : OwnW wr base v L) (hb : Below wr.heap.size wr w) (hu : OwnB w wr.heap.size u x.data) (hbase : base ≤ wr.heap.size)
    (hblk : w.heap[g1]? = some (.cells #[.int .i64 x.at_, u] 49 (0, 0))) (hL : L.length ≤ 1000000000)
    (h : ∀ g cap w', OwnW w' base (.slice (some ⟨g, 0, none⟩) (L.length + 1) cap) (L ++ [x]) → Below base wr w' → K (a.put o.dst (.slice (some ⟨g, 0, none⟩) (L.length + 1) cap)) w') : if Region.wanted o (yielded ops a.tmps) = true then Oper.wp Try.prog o a w K Q else E := by
  have hw : Region.wanted o (yielded ops a.tmps) = true := by simp [Region.wanted, hgd]
  rw [if_pos hw]
  exact wp_pushW s y ho hs hy hO hb hu hbase hblk hL h
end Go.Proofs.Ytcembocnkndlhaa
