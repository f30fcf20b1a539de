/- Pages that a call owns: each in a block of its own; appending one, storing into one. -/
import Derived.Test.YtcembocnkndlhaaWf
import Derived.Deep.RegionHeld3
namespace Go.Proofs.Ytcembocnkndlhaa
open Go.RowKit
theorem info26 : (Try.prog.info? 26).map (fun i => (i.zero, i.size, i.bytes)) = some (some (.slice none 0 0), 1, 24) := by kernel_rfl
def pageV (g : Nat) : Value := .slice (some ⟨g, 0, none⟩) 64 64
def OwnPages (w : World) (base : Nat) (v : Value) (L : List (List UInt8)) : Prop :=
  ∃ gs : List Nat, w.ownsRow base 26 1 v L.length (gs.map pageV) ∧ gs.length = L.length ∧ gs.Nodup ∧ (∀ g ∈ gs, base ≤ g ∧ v.ownBlock ≠ some g) ∧ ∀ (i : Nat) (g : Nat) (l : List UInt8), gs[i]? = some g → L[i]? = some l → w.heap[g]? = some (.cells (bytesV l).toArray 5 (0, 0)) ∧ l.length = 64
theorem OwnPages.nil (w : World) (base : Nat) : OwnPages w base (.slice none 0 0) [] := ⟨[], World.ownsRow_nil _ _ _ _, rfl, List.nodup_nil, by simp, by simp⟩
theorem OwnPages.keep {w w' : World} {base : Nat} {v : Value} {L : List (List UInt8)} (h : OwnPages w base v L) (hb : Below w.heap.size w w') : OwnPages w' base v L := by
  obtain ⟨gs, h1, h2, h3, h4, h5⟩ := h
  exact ⟨gs, own_keep h1 hb, h2, h3, h4, fun i g l hg hl => ⟨block_keep (h5 i g l hg hl).1 hb, (h5 i g l hg hl).2⟩⟩
theorem OwnPages.store {w : World} {base : Nat} {v : Value} {L : List (List UInt8)} (h : OwnPages w base v L) {p : Addr} (hp : p.block < base) (u : Value) : OwnPages (w.setCell p u) base v L := by
  obtain ⟨gs, h1, h2, h3, h4, h5⟩ := h
  refine ⟨gs, own_store h1 hp u, h2, h3, h4, fun i g l hg hl => ⟨?_, (h5 i g l hg hl).2⟩⟩
  have := (h4 g (List.mem_of_getElem? hg)).1
  exact (Below.heap_setCell _ _ _ _ (by omega)).trans (h5 i g l hg hl).1
theorem OwnPages.len {w : World} {base : Nat} {v : Value} {L : List (List UInt8)} (h : OwnPages w base v L) : ∃ a c, v = .slice a L.length c := by
  obtain ⟨gs, ⟨_, h1⟩, _⟩ := h
  rcases h1 with ⟨rfl, h0⟩ | ⟨g, cap, cur, rfl, _⟩
  · exact ⟨none, 0, by rw [h0]⟩
  · exact ⟨_, _, rfl⟩
theorem flatV (vs : List Value) : vs.flatMap encV = vs := by
  induction vs with
  | nil => rfl
  | cons x r ih => rw [List.flatMap_cons, ih]; rfl
theorem OwnPages.is {w : World} {base : Nat} {v : Value} {L : List (List UInt8)} (h : OwnPages w base v L) (hm : L.length ≤ 9223372036854775807) : IsPages w v L := by
  obtain ⟨gs, h1, h2, h3, h4, h5⟩ := h
  refine ⟨gs.map pageV, IsRows.of_owns (base := base) (e := 26) (by rw [flatV, List.length_map, h2]; exact h1) (fun _ _ => rfl) (by rw [List.length_map, h2]; exact hm), by rw [List.length_map, h2], fun i u l hu hl => ?_⟩
  rw [List.getElem?_map] at hu
  obtain ⟨g, hg, rfl⟩ := Option.map_eq_some_iff.1 hu
  obtain ⟨h6, h7⟩ := h5 i g l hg hl
  exact OwnPage.bytes (base := 0) ⟨g, rfl, Nat.zero_le _, h6, h7⟩
/-- A page more: what append does. -/
theorem OwnPages.push {wr w w' : World} {base : Nat} {v : Value} {L : List (List UInt8)} {q g cap : Nat} {l : List UInt8} (hO : OwnPages wr base v L) (hb : Below wr.heap.size wr w) (hu : OwnPage w wr.heap.size (pageV q) l) (hbase : base ≤ wr.heap.size)
    (h1 : ∀ gs : List Nat, w.ownsRow base 26 1 v L.length (gs.map pageV) → w'.ownsRow base 26 1 (.slice (some ⟨g, 0, none⟩) (L.length + 1) cap) (L.length + 1) (gs.map pageV ++ [pageV q])) (hg : w.grownBy w' v.ownBlock) (hat : v.ownBlock = some g ∨ g = w.heap.size) :
    OwnPages w' base (.slice (some ⟨g, 0, none⟩) (L.length + 1) cap) (L ++ [l]) ∧ Below base wr w' ∧ wr.grownBy w' v.ownBlock ∧ (v.ownBlock = some g ∨ wr.heap.size ≤ g) := by
  obtain ⟨gs, k1, k2, k3, k4, k5⟩ := hO
  obtain ⟨q', e, q1, q2, q3⟩ := hu
  have hqq : q' = q := by unfold pageV at e; injection e with e1 e2 e3; injection e1 with e1; injection e1 with e1; exact e1.symm
  subst hqq
  have hown := own_keep k1 hb
  have hlt : ∀ x ∈ gs, x < wr.heap.size := by
    intro x hx
    obtain ⟨i, hi, rfl⟩ := List.getElem_of_mem hx
    exact block_lt (k5 i gs[i] (L[i]'(by omega)) (List.getElem?_eq_getElem hi) (List.getElem?_eq_getElem (by omega))).1
  have hql : q' < w.heap.size := block_lt q2
  have hvb : ∀ k, v.ownBlock = some k → base ≤ k ∧ k < wr.heap.size := k1.lt
  have hgl : ∀ x ∈ gs, x ≠ g := by
    intro x hx e
    subst e
    rcases hat with h | h
    · exact (k4 x hx).2 h
    · have := hlt x hx; have := hb.size; omega
  have hqg : q' ≠ g := by
    intro e
    subst e
    rcases hat with h | h
    · have := (hvb q' h).2; omega
    · omega
  refine ⟨⟨gs ++ [q'], ?_, by simp [k2], ?_, ?_, ?_⟩, ?_, ?_, ?_⟩
  · rw [List.length_append, List.map_append]; exact h1 gs hown
  · rw [List.nodup_append]
    refine ⟨k3, by simp, fun x hx y hy e => ?_⟩
    obtain rfl : y = q' := by simpa using hy
    have := hlt x hx; omega
  · intro x hx
    rcases List.mem_append.1 hx with hx | hx
    · exact ⟨(k4 x hx).1, fun e => hgl x hx (by simpa [Value.ownBlock] using e.symm)⟩
    · obtain rfl : x = q' := by simpa using hx
      exact ⟨by omega, fun e => hqg (by simpa [Value.ownBlock] using e.symm)⟩
  · intro i x y hx hy
    rcases Nat.lt_or_ge i gs.length with hi | hi
    · rw [List.getElem?_append_left hi] at hx
      rw [List.getElem?_append_left (by omega)] at hy
      obtain ⟨h6, h7⟩ := k5 i x y hx hy
      have hm := List.mem_of_getElem? hx
      refine ⟨?_, h7⟩
      rw [hg.block x (by have := hlt x hm; have := hb.size; omega) fun e => (k4 x hm).2 e.symm]
      exact block_keep h6 hb
    · rw [List.getElem?_append_right hi] at hx
      rw [List.getElem?_append_right (by omega)] at hy
      have h0 : i - gs.length = 0 := by
        have := (List.getElem?_eq_some_iff.1 hx).1
        simp at this; omega
      rw [← k2, h0] at hy
      rw [h0] at hx
      obtain rfl : q' = x := by simpa using hx
      obtain rfl : l = y := by simpa using hy
      refine ⟨?_, q3⟩
      rw [hg.block q' hql fun e => by have := (hvb q' e.symm).2; omega]
      exact q2
  · refine (hb.mono hbase).trans ⟨hg.os, hg.tape, hg.output, hg.size, fun k hk => hg.block k (by have := hb.size; omega) fun e => ?_⟩
    have := (hvb k e.symm).1; omega
  · exact ⟨hg.os.trans hb.os, hg.tape.trans hb.tape, hg.output.trans hb.output, Nat.le_trans hb.size hg.size, fun k hk hne => (hg.block k (Nat.lt_of_lt_of_le hk hb.size) hne).trans (hb.block k hk)⟩
  · rcases hat with h | h
    · exact .inl h
    · exact .inr (by rw [h]; exact hb.size)
theorem run_push {wr w : World} {base : Nat} {v : Value} {L : List (List UInt8)} {q g1 : Nat} {l : List UInt8} {t ty bt : TypeId} (ht : Try.prog.underlying t = some (.slice 26)) (hO : OwnPages wr base v L) (hb : Below wr.heap.size wr w) (hu : OwnPage w wr.heap.size (pageV q) l) (hbase : base ≤ wr.heap.size)
    (hblk : w.heap[g1]? = some (.cells #[pageV q] bt (0, 0))) (hL : L.length ≤ 1000) :
    ∃ g cap w', (Builtin.append_ #[t, t] ty #[v, .slice (some ⟨g1, 0, none⟩) 1 1]).run Try.prog w = .ok (.slice (some ⟨g, 0, none⟩) (L.length + 1) cap) w' ∧ OwnPages w' base (.slice (some ⟨g, 0, none⟩) (L.length + 1) cap) (L ++ [l]) ∧ Below base wr w' ∧ wr.grownBy w' v.ownBlock ∧ (v.ownBlock = some g ∨ wr.heap.size ≤ g) := by
  obtain ⟨i0, hi, hz0, hz1, hz2⟩ := info_parts info26
  obtain ⟨gs, k1, k2, k3, k4, k5⟩ := id hO
  have hown := own_keep k1 hb
  obtain ⟨g, cap, w', hrun, h2, h3, h4, h5⟩ := run_append_lies (P := Try.prog) w t ty base 26 i0 (.slice none 0 0) 1 24 ht hi hz0 hz1 hz2 rfl (by decide) v L.length (gs.map pageV) hown ⟨g1, 0, none⟩ 1 1 [pageV q] rfl
    (fun j u hj => by
      have hj0 : j = 0 := by have := (List.getElem?_eq_some_iff.1 hj).1; simp at this; exact this
      subst hj0
      obtain rfl : pageV q = u := by simpa using hj
      exact cell_at hblk rfl) (by intro u hu; obtain rfl := List.mem_singleton.1 hu; rfl) (by decide) (by unfold maxLen; omega) (by omega) (by have := hb.size; omega) _ rfl
  have := OwnPages.push hO hb hu hbase (g := g) (cap := cap) (w' := w') (fun gs' hown' => by
    have e : gs'.map pageV = gs.map pageV := by
      have h6 := hown'.2
      have h7 := hown.2
      rcases h6 with ⟨e6, n6⟩ | ⟨a6, c6, cur6, e6, _, b6, _, _, _, t6⟩
      · have : gs.map pageV = [] := List.eq_nil_of_length_eq_zero (by rw [hown.1, n6])
        rw [this]
        exact List.eq_nil_of_length_eq_zero (by rw [hown'.1, n6])
      · rcases h7 with ⟨e7, n7⟩ | ⟨a7, c7, cur7, e7, _, b7, _, _, _, t7⟩
        · rw [e6] at e7; cases e7
        · rw [e6] at e7
          simp only [Value.slice.injEq, Option.some.injEq, Addr.mk.injEq] at e7
          obtain ⟨⟨rfl, -, -⟩, -, -⟩ := e7
          have e9 := b6.symm.trans b7
          simp only [Option.some.injEq, Obj.cells.injEq] at e9
          obtain ⟨rfl, -, -⟩ := e9
          rw [← t6, ← t7]
    rw [e]; exact h2) h3 h4
  exact ⟨g, cap, w', hrun, this⟩
theorem wp_push {wr w : World} {o : Oper} {a : Act} {K : Act → World → Prop} {Q : Exit → Act → World → Prop} (s y : Operand) (t : TypeId) (ho : o.op = .call { callee := .builtin .append, args := #[s, y], argTypes := #[t, t] }) (ht : Try.prog.underlying t = some (.slice 26))
    {base : Nat} {v : Value} {L : List (List UInt8)} {q g1 : Nat} {l : List UInt8} {bt : TypeId} (hs : a.eval s = v) (hy : a.eval y = .slice (some ⟨g1, 0, none⟩) 1 1) (hO : OwnPages wr base v L) (hb : Below wr.heap.size wr w) (hu : OwnPage w wr.heap.size (pageV q) l) (hbase : base ≤ wr.heap.size)
    (hblk : w.heap[g1]? = some (.cells #[pageV q] bt (0, 0))) (hL : L.length ≤ 1000)
    (h : ∀ g cap w', OwnPages w' base (.slice (some ⟨g, 0, none⟩) (L.length + 1) cap) (L ++ [l]) → Below base wr w' → wr.grownBy w' v.ownBlock → (v.ownBlock = some g ∨ wr.heap.size ≤ g) → K (a.put o.dst (.slice (some ⟨g, 0, none⟩) (L.length + 1) cap)) w') : o.wp Try.prog a w K Q := by
  obtain ⟨g, cap, w', hr, h2, h3, h4, h5⟩ := run_push (ty := o.type) ht hO hb hu hbase hblk hL
  unfold Oper.wp execOp
  simp only [ho, resolve, invoke, builtin, Sem.run_bind, Sem.run_pure, Result.andThen_ok, List.map_toArray, List.map_cons, List.map_nil, hs, hy, hr]
  exact h g cap w' h2 h3 h4 h5
theorem wpList_push {wr w : World} {ops : Array Oper} {rest : List Oper} {o : Oper} {a : Act} {Q : Exit → Act → World → Prop} (hgd : o.guard = none) (s y : Operand) (t : TypeId) (ho : o.op = .call { callee := .builtin .append, args := #[s, y], argTypes := #[t, t] }) (ht : Try.prog.underlying t = some (.slice 26))
    {base : Nat} {v : Value} {L : List (List UInt8)} {q g1 : Nat} {l : List UInt8} {bt : TypeId} (hs : a.eval s = v) (hy : a.eval y = .slice (some ⟨g1, 0, none⟩) 1 1) (hO : OwnPages wr base v L) (hb : Below wr.heap.size wr w) (hu : OwnPage w wr.heap.size (pageV q) l) (hbase : base ≤ wr.heap.size)
    (hblk : w.heap[g1]? = some (.cells #[pageV q] bt (0, 0))) (hL : L.length ≤ 1000)
    (h : ∀ g cap w', OwnPages w' base (.slice (some ⟨g, 0, none⟩) (L.length + 1) cap) (L ++ [l]) → Below base wr w' → wr.grownBy w' v.ownBlock → (v.ownBlock = some g ∨ wr.heap.size ≤ g) → wpList Try.prog ops Q rest (a.put o.dst (.slice (some ⟨g, 0, none⟩) (L.length + 1) cap)) w') : wpList Try.prog ops Q (o :: rest) a w :=
  wpList_plain hgd fun _ hK => wp_push s y t ho ht hs hy hO hb hu hbase hblk hL fun g cap w' h2 h3 h4 h5 => hK _ _ (h g cap w' h2 h3 h4 h5)
theorem step_push {wr w : World} {ops : Array Oper} {o : Oper} {a : Act} {K : Act → World → Prop} {Q : Exit → Act → World → Prop} {E : Prop} (hgd : o.guard = none) (s y : Operand) (t : TypeId) (ho : o.op = .call { callee := .builtin .append, args := #[s, y], argTypes := #[t, t] }) (ht : Try.prog.underlying t = some (.slice 26))
    {base : Nat} {v : Value} {L : List (List UInt8)} {q g1 : Nat} {l : List UInt8} {bt : TypeId} (hs : a.eval s = v) (hy : a.eval y = .slice (some ⟨g1, 0, none⟩) 1 1) (hO : OwnPages wr base v L) (hb : Below wr.heap.size wr w) (hu : OwnPage w wr.heap.size (pageV q) l) (hbase : base ≤ wr.heap.size)
    (hblk : w.heap[g1]? = some (.cells #[pageV q] bt (0, 0))) (hL : L.length ≤ 1000)
    (h : ∀ g cap w', OwnPages w' base (.slice (some ⟨g, 0, none⟩) (L.length + 1) cap) (L ++ [l]) → Below base wr w' → wr.grownBy w' v.ownBlock → (v.ownBlock = some g ∨ wr.heap.size ≤ g) → K (a.put o.dst (.slice (some ⟨g, 0, none⟩) (L.length + 1) cap)) w') : if Region.wanted o (yielded ops a.tmps) = true then Oper.wp Try.prog o a w K Q else E := by
  have hw : Region.wanted o (yielded ops a.tmps) = true := by simp [Region.wanted, hgd]
  rw [if_pos hw]
  exact wp_push s y t ho ht hs hy hO hb hu hbase hblk hL h
theorem box1_set {w : World} {g : Nat} {u v : Value} {t : TypeId} (h : w.heap[g]? = some (.cells #[u] t (0, 0))) : (w.setCell ⟨g, 0, none⟩ v).heap[g]? = some (.cells #[v] t (0, 0)) := by
  simp [World.setCell, Array.getElem?_modify, h]
/-- One page of those that the call owns: where it lies, and what they are when it alone has turned. -/
theorem OwnPages.open_ {w : World} {base : Nat} {v : Value} {L : List (List UInt8)} (h : OwnPages w base v L) {k : Nat} {l : List UInt8} (hk : L[k]? = some l) :
    ∃ b c g, v = .slice (some ⟨b, 0, none⟩) L.length c ∧ base ≤ b ∧ w.cell? ⟨b, 0 + k, none⟩ = some (pageV g) ∧ base ≤ g ∧ b ≠ g ∧ w.heap[g]? = some (.cells (bytesV l).toArray 5 (0, 0)) ∧ l.length = 64 ∧
      ∀ (w' : World) (l' : List UInt8), l'.length = 64 → w'.heap[g]? = some (.cells (bytesV l').toArray 5 (0, 0)) → (∀ j, j ≠ g → w'.heap[j]? = w.heap[j]?) → OwnPages w' base v (L.set k l') := by
  obtain ⟨gs, h1, h2, h3, h4, h5⟩ := h
  have hkl : k < L.length := (List.getElem?_eq_some_iff.1 hk).1
  have hkg : k < gs.length := by omega
  obtain ⟨h6, h7⟩ := h5 k gs[k] l (List.getElem?_eq_getElem hkg) hk
  have h8 := h4 gs[k] (List.getElem_mem hkg)
  have h9 := h1.2
  rcases h9 with ⟨rfl, h0⟩ | ⟨b, cap, cur, rfl, hb, hbb, hn, hc, hs, ht⟩
  · omega
  · have hne : b ≠ gs[k] := fun e => h8.2 (by rw [e]; rfl)
    refine ⟨b, cap, gs[k], rfl, hb, ?_, h8.1, hne, h6, h7, fun w' l' hl' hg' ho => ⟨gs, ?_, by rw [List.length_set, h2], h3, h4, fun i x y hx hy => ?_⟩⟩
    · have := h1.cells (g := b) rfl k (pageV gs[k]) (by rw [List.getElem?_map, List.getElem?_eq_getElem hkg]; rfl)
      have hadd : (⟨b, 0, none⟩ : Addr).add k = ⟨b, 0 + k, none⟩ := by
        unfold Addr.add; split
        · rename_i h0; subst h0; simp
        · simp
      rwa [hadd] at this
    · rw [List.length_set]
      refine ⟨h1.1, .inr ⟨b, cap, cur, rfl, hb, ?_, hn, hc, hs, ht⟩⟩
      rw [ho b hne]; exact hbb
    · rw [List.getElem?_set] at hy
      by_cases e : k = i
      · subst e
        rw [if_pos rfl, if_pos hkl] at hy
        obtain rfl : l' = y := by simpa using hy
        rw [List.getElem?_eq_getElem hkg] at hx
        obtain rfl : gs[k] = x := by simpa using hx
        exact ⟨hg', hl'⟩
      · rw [if_neg e] at hy
        have hxg : x ≠ gs[k] := by
          intro e'
          have hi : i < gs.length := (List.getElem?_eq_some_iff.1 hx).1
          have hxi : gs[i] = x := by rw [List.getElem?_eq_getElem hi] at hx; simpa using hx
          exact e ((List.getElem_inj h3).1 (e'.symm.trans hxi.symm))
        rw [ho x hxg]
        exact h5 i x y hx hy
theorem over_splice {l data : List UInt8} {n : Nat} (hn : n ≤ data.length) : bytesV (over data l n) = (bytesV l).take 0 ++ bytesV (data.take n) ++ (bytesV l).drop (0 + (bytesV (data.take n)).length) := by
  unfold over
  rw [length_bytesV, List.length_take, Nat.min_eq_left hn]
  unfold bytesV
  rw [List.map_append, List.map_drop, List.take_zero, List.nil_append, Nat.zero_add]
/-- The copy of n bytes into a page that the call owns. -/
theorem run_copy_page {w : World} {base : Nat} {v : Value} {L : List (List UInt8)} (h : OwnPages w base v L) {k : Nat} {l : List UInt8} (hk : L[k]? = some l) {g : Nat} {b c : Nat} (hv : v = .slice (some ⟨b, 0, none⟩) L.length c) (hg : w.cell? ⟨b, 0 + k, none⟩ = some (pageV g))
    {sa : Option Addr} {n sc : Nat} {data : List UInt8} (hs : RowsAt 1 encB w sa (data.take n)) (hn : n ≤ data.length) (h64 : n ≤ 64) (ty : TypeId) :
    ∃ w', (Builtin.copy_ #[26, 26] ty #[pageV g, .slice sa n sc]).run Try.prog w = .ok (goInt n) w' ∧ OwnPages w' base v (L.set k (over data l n)) ∧ Below base w w' := by
  obtain ⟨b', c', g', e1, e2, e3, e4, e5, e6, e7, e8⟩ := h.open_ hk
  have : g' = g ∧ b' = b := by
    rw [hv] at e1
    simp only [Value.slice.injEq, Option.some.injEq, Addr.mk.injEq, and_true, true_and] at e1
    obtain ⟨rfl, -⟩ := e1
    rw [hg] at e3
    simp [pageV] at e3
    exact ⟨e3.symm, rfl⟩
  obtain ⟨rfl, rfl⟩ := this
  have hsz : (Try.prog.info? 5).map (·.size) = some 1 := by kernel_rfl
  have hlo : (over data l n).length = 64 := by unfold over; rw [List.length_append, List.length_take, List.length_drop, Nat.min_eq_left hn, e7]; omega
  rcases hs with hs | ⟨sb, so, rfl, hc⟩
  · have hn0 : n = 0 := by
      have := congrArg List.length hs
      rw [List.length_take, Nat.min_eq_left hn] at this
      exact this
    subst hn0
    refine ⟨w, run_copy_none (P := Try.prog) w 26 26 ty 5 _ sa 64 64 0 sc Try.underlying26 hsz (by rfl), ?_, Below.refl _ _⟩
    have : L.set k l = L := by
      apply List.ext_getElem?
      intro i
      rw [List.getElem?_set]
      split
      · rename_i e; subst e
        split
        · exact hk.symm
        · rename_i e; exact absurd (List.getElem?_eq_some_iff.1 hk).1 e
      · rfl
    rw [over_none, this]
    exact h
  · have hcs : ∀ j u, (bytesV (data.take n))[j]? = some u → w.cell? ((⟨sb, so, none⟩ : Addr).add j) = some u := by
      intro j u hj
      have := bytes_take hc (data.take n).length j u (by rw [List.take_length]; exact hj)
      exact this
    have hlen : (bytesV (data.take n)).length = n := by rw [length_bytesV, List.length_take]; omega
    have hrun := run_copy_row (P := Try.prog) w 26 26 ty 5 g' 0 64 64 ⟨sb, so, none⟩ n sc (bytesV l).toArray 5 (bytesV (data.take n)) Try.underlying26 hsz e6 (by rw [hlen]; exact (Nat.min_eq_left h64).symm) hcs (by rw [hlen]; simp [length_bytesV]; omega) (bytesV_one _)
    rw [hlen] at hrun
    refine ⟨_, hrun, e8 _ (over data l n) hlo ?_ fun j hj => setRow_other w g' j _ hj, ?_⟩
    · rw [setRow_heap w g' _ _ 5 _ e6]
      have := over_splice (l := l) hn
      rw [hlen] at this
      rw [this]
    · exact below_setRow (Below.refl _ _) e4 _
theorem step_copy_page {w : World} {ops : Array Oper} {o : Oper} {a : Act} {K : Act → World → Prop} {Q : Exit → Act → World → Prop} {E : Prop} (hgd : o.guard = none) (d y : Operand) (ho : o.op = .call { callee := .builtin .copy, args := #[d, y], argTypes := #[26, 26] })
    {base : Nat} {v : Value} {L : List (List UInt8)} (h : OwnPages w base v L) {k : Nat} {l : List UInt8} (hk : L[k]? = some l) {g : Nat} {b c : Nat} (hv : v = .slice (some ⟨b, 0, none⟩) L.length c) (hg : w.cell? ⟨b, 0 + k, none⟩ = some (pageV g))
    {sa : Option Addr} {n sc : Nat} {data : List UInt8} (hd : a.eval d = pageV g) (hy : a.eval y = .slice sa n sc) (hs : RowsAt 1 encB w sa (data.take n)) (hn : n ≤ data.length) (h64 : n ≤ 64)
    (hk' : ∀ w', OwnPages w' base v (L.set k (over data l n)) → Below base w w' → K (a.put o.dst (goInt n)) w') : if Region.wanted o (yielded ops a.tmps) = true then Oper.wp Try.prog o a w K Q else E := by
  have hw : Region.wanted o (yielded ops a.tmps) = true := by simp [Region.wanted, hgd]
  rw [if_pos hw]
  obtain ⟨w', hr, h2, h3⟩ := run_copy_page h hk hv hg (sc := sc) hs hn h64 o.type
  unfold Oper.wp execOp
  simp only [ho, resolve, invoke, builtin, Sem.run_bind, Sem.run_pure, Result.andThen_ok, List.map_toArray, List.map_cons, List.map_nil, hd, hy, hr]
  exact hk' w' h2 h3
theorem full_ts {v : Value} {l : List UInt8} {w : World} {Q : Ending → World → Prop} (h : IsBytes w v l) (k : ∀ q w', OwnPage w' w.heap.size (pageV q) (full l) → Below w.heap.size w w' → Q (.returned (.slice (some ⟨q, 0, none⟩) 64 64)) w') : Calls Try.prog 58 #[v] w Q :=
  (full_any v l w h).mono fun e w' ⟨u, he, hu, hb⟩ => by
    subst he
    obtain ⟨q, rfl, h2⟩ := id hu
    exact k q w' hu hb
theorem OwnPage.alloc {w : World} {base : Nat} {v : Value} {l : List UInt8} (h : OwnPage w base v l) (o : Obj) : OwnPage (w.alloc o) base v l := h.keep (below_new _ _)
theorem OwnPage.drew {w : World} {base : Nat} {v : Value} {l : List UInt8} (h : OwnPage w base v l) : OwnPage w.drew base v l := h
theorem below_alloc' {a w : World} {o : Obj} (hB : Below a.heap.size a w) : Below a.heap.size a (w.alloc o) := hB.alloc hB.size o
theorem below_drew' {B : Nat} {a w : World} (h : Below B a w) : Below B a w.drew := h.drew
theorem below_undrew {B : Nat} {a w : World} (h : Below B a.drew w) : Below B a w := ⟨h.os, h.tape, h.output, h.size, h.block⟩
theorem below_step {a w w' : World} (h : Below w.heap.size w w') (k : Below a.heap.size a w) : Below a.heap.size a w' := below_trans k h
end Go.Proofs.Ytcembocnkndlhaa
