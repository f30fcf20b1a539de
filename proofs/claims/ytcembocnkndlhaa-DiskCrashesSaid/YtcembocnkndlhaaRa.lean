/- The reference's walks: Full, pages. -/
import Derived.Test.YtcembocnkndlhaaOwn
import Derived.Deep.LoopGhost
namespace Go.Proofs.Ytcembocnkndlhaa
open Go.RowKit
/-- A slice of bytes that the call has made by appending. -/
def OwnB (w : World) (base : Nat) (u : Value) (l : List UInt8) : Prop := w.ownsRow base 5 1 u l.length (bytesV l) ∧ u ≠ .slice none 0 0
theorem OwnB.keep {w w' : World} {base : Nat} {u : Value} {l : List UInt8} (h : OwnB w base u l) (hb : Below w.heap.size w w') : OwnB w' base u l := ⟨own_keep h.1 hb, h.2⟩
theorem OwnB.is {w : World} {base : Nat} {u : Value} {l : List UInt8} (h : OwnB w base u l) (hm : l.length ≤ 9223372036854775807) : IsBytes w u l :=
  IsRows.of_owns (by rw [flat_bytes]; exact h.1) (fun _ _ => rfl) hm
theorem OwnB.form {w : World} {base : Nat} {u : Value} {l : List UInt8} (h : OwnB w base u l) : ∃ g cap cur, u = .slice (some ⟨g, 0, none⟩) l.length cap ∧ base ≤ g ∧ w.heap[g]? = some (.cells cur 5 (0, 0)) ∧ l.length ≤ cap ∧ cap ≤ maxLen ∧ cur.size = cap ∧ cur.toList.take l.length = bytesV l := by
  obtain ⟨⟨h1, h2⟩, h3⟩ := h
  rcases h2 with ⟨rfl, _⟩ | ⟨g, cap, cur, rfl, a, b, c, d, e, f⟩
  · exact absurd rfl h3
  · exact ⟨g, cap, cur, rfl, a, b, c, d, by rw [e, Nat.mul_one], by rw [Nat.mul_one] at f; exact f⟩
theorem bytesV_append (a b : List UInt8) : bytesV (a ++ b) = bytesV a ++ bytesV b := by simp [bytesV]
theorem bytes_one (l : List UInt8) : ∀ y ∈ l, ∀ u ∈ encB y, u.oneCell' = true := by
  intro y _ u hu
  simp [encB] at hu; subst hu; rfl
theorem cell_one' (w : World) (x : Value) (t : TypeId) : ∀ j u, [x][j]? = some u → (w.alloc (.cells #[x] t)).cell? ((⟨w.heap.size, 0, none⟩ : Addr).add j) = some u := by
  intro j u hj
  have hj0 : j = 0 := by have := (List.getElem?_eq_some_iff.1 hj).1; simp at this; exact this
  subst hj0
  obtain rfl : x = u := by simpa using hj
  exact cell_at (heap_alloc_new w _) rfl
set_option maxHeartbeats 1000000 in
set_option maxRecDepth 100000 in
theorem rFull_any (v : Value) (l : List UInt8) (w : World) (h : IsBytes w v l) (hl : l.length ≤ 100000) :
    Calls Try.prog 35 #[v] w fun e w' => ∃ u, e = .returned u ∧ OwnB w' w.heap.size u (rfull l) ∧ Below w.heap.size w w' := by
  obtain ⟨i0, hi, hz0, hz1, hz2⟩ := info_parts info5
  have hr0 := h
  obtain ⟨a, c, rfl, -, hm⟩ := h
  have h0 : (w.alloc (.cells #[] 5)).ownsRow w.heap.size 5 1 (.slice (some ⟨w.heap.size, 0, none⟩) 0 0) 0 [] := World.ownsRow_lit w #[] 0 (Nat.le_refl _) (by decide) rfl
  have b0 := below_new w (.cells #[] 5)
  have hx := hr0.keep b0
  have h1 := bytes_one l
  go_enter Try.func35, Try.ntmps35
  go_wp2_with (at_builtin; refine wpList_append_rows rfl encB _ _ 26 rfl w.heap.size 5 i0 (.int .u8 0) 1 1 Try.underlying26 hi hz0 hz1 hz2 rfl (by decide) _ _ _ rfl h0 _ l rfl hx (fun _ _ => rfl) h1 (by unfold maxLen; omega) (by omega) (by simp) ?_; intro v1 w1 hown1 hgrow1 hat1)
  have hb1 : Below w.heap.size w w1 := b0.grown hgrow1 (by simp) (own_from h0)
  have hO1 : OwnB w1 w.heap.size v1 l := by
    refine ⟨?_, ?_⟩
    · have := hown1; rw [flat_bytes] at this; simpa using this
    · rintro rfl
      rcases hat1 with h | h
      · cases h
      · cases h
  clear hown1 hgrow1 hat1 hx h1 h0 b0 hr0
  go_loopg [3] (64 - l.length) (fun g vo wr => ∃ m : Nat, m + g = 64 - l.length ∧ OwnB wr w.heap.size vo (l ++ zeros m) ∧ Below w.heap.size w wr)
  case atStart => exact ⟨0, by omega, by simpa [zeros] using hO1, hb1⟩
  case round =>
    obtain ⟨m, hm', hO, hb⟩ := hrel
    obtain ⟨g, cap, cur, rfl, k1, k2, k3, k4, k5, k6⟩ := hO.form
    have hlen : (l ++ zeros m).length = l.length + m := by simp [zeros]
    have HZ : l ++ zeros m ++ [0] = l ++ zeros (m + 1) := by
      rw [List.append_assoc]; congr 1; unfold zeros; rw [← List.replicate_succ']
    have HZ' := Lib.hid HZ
    have hOw := hO.1
    have hfin : Hid (64 ≤ l.length + m → l ++ zeros m = rfull l) := Lib.hid fun h => by
      unfold rfull
      rw [show m = 64 - l.length by omega]
    generalize l ++ zeros m = M at *
    have HL := Lib.hid hlen
    by_cases hlt : M.length < 64
    · have hd : decide ((M.length : Int) < 64) = true := decide_eq_true (by omega)
      clear k2 k6 HZ hlen hO
      go_wp2_with (at_builtin; refine wpList_append_own _ rfl _ _ 26 rfl w.heap.size 5 i0 (.int .u8 0) 1 1 Try.underlying26 hi hz0 hz1 hz2 rfl (by decide) _ _ _ rfl (hOw.alloc _) ⟨wr.heap.size, 0, none⟩ 1 1 [.int .u8 0] rfl rfl (cell_one' _ _ _) (by intro u hu; obtain rfl := List.mem_singleton.1 hu; rfl) (by unfold maxLen; omega) (by omega) (by have := hb.size; simp; omega) ?_; intro v2 w2 hown2 hgrow2 hne2)
      go_roundg (gk - 1)
      case measure => have := HL.out; omega
      case rel =>
        refine ⟨m + 1, by have := HL.out; omega, ⟨?_, ?_⟩, ?_⟩
        · rw [← HZ'.out, List.length_append, bytesV_append]; exact hown2
        · intro e
          exact absurd (hne2.1 e).2 (by decide)
        · exact (hb.alloc (by have := hb.size; omega) _).grown hgrow2 (by have := hb.size; simp; omega) (own_from hOw)
    · have hd : decide ((M.length : Int) < 64) = false := decide_eq_false (by omega)
      clear k2 k6 HZ
      go_wp2
      go_ret
      rw [← hfin.out (by omega)]
      exact ⟨_, rfl, hO, hb⟩
/-! ### pages that the reference owns -/
def OwnR (w : World) (base : Nat) (v : Value) (L : List (List UInt8)) : Prop :=
  ∃ us : List Value, w.ownsRow base 26 1 v L.length us ∧ us.length = L.length ∧ (∀ (i : Nat) (u : Value) (l : List UInt8), us[i]? = some u → L[i]? = some l → OwnB w base u l ∧ v.ownBlock ≠ u.ownBlock) ∧ ∀ (i j : Nat) (u u' : Value), i ≠ j → us[i]? = some u → us[j]? = some u' → u.ownBlock ≠ u'.ownBlock
theorem OwnR.nil (w : World) (base : Nat) : OwnR w base (.slice none 0 0) [] := ⟨[], World.ownsRow_nil _ _ _ _, rfl, by simp, by simp⟩
theorem OwnR.keep {w w' : World} {base : Nat} {v : Value} {L : List (List UInt8)} (h : OwnR w base v L) (hb : Below w.heap.size w w') : OwnR w' base v L := by
  obtain ⟨us, h1, h2, h3, h4⟩ := h
  exact ⟨us, own_keep h1 hb, h2, fun i u l hu hl => ⟨(h3 i u l hu hl).1.keep hb, (h3 i u l hu hl).2⟩, h4⟩
theorem OwnR.len {w : World} {base : Nat} {v : Value} {L : List (List UInt8)} (h : OwnR w base v L) : ∃ a c, v = .slice a L.length c ∧ L.length ≤ c ∧ c ≤ 9223372036854775807 := by
  obtain ⟨us, ⟨_, h1⟩, _⟩ := h
  rcases h1 with ⟨rfl, h0⟩ | ⟨g, cap, cur, rfl, _, _, h5, h6, _⟩
  · exact ⟨none, 0, by rw [h0], by omega, by omega⟩
  · exact ⟨_, _, rfl, h5, by unfold maxLen at h6; omega⟩
theorem OwnR.is {w : World} {base : Nat} {v : Value} {L : List (List UInt8)} (h : OwnR w base v L) (hm : L.length ≤ 9223372036854775807) (hl : ∀ l ∈ L, l.length ≤ 9223372036854775807) : IsPages w v L := by
  obtain ⟨us, h1, h2, h3, h4⟩ := h
  refine ⟨us, IsRows.of_owns (base := base) (e := 26) (by rw [flatV, h2]; exact h1) (fun _ _ => rfl) (by rw [h2]; exact hm), h2, fun i u l hu hll => (h3 i u l hu hll).1.is (hl l (List.mem_of_getElem? hll))⟩
theorem OwnB.one {w : World} {base : Nat} {u : Value} {l : List UInt8} (h : OwnB w base u l) : u.oneCell' = true := by
  obtain ⟨g, cap, cur, rfl, _⟩ := h.form; rfl
/-- A page more. -/
theorem run_pushR {wr w : World} {base : Nat} {v : Value} {L : List (List UInt8)} {u : Value} {g1 : Nat} {l : List UInt8} {t ty bt : TypeId} (ht : Try.prog.underlying t = some (.slice 26)) (hO : OwnR wr base v L) (hb : Below wr.heap.size wr w) (hu : OwnB w wr.heap.size u l) (hbase : base ≤ wr.heap.size)
    (hblk : w.heap[g1]? = some (.cells #[u] bt (0, 0))) (hL : L.length ≤ 1000) :
    ∃ g cap w', (Builtin.append_ #[t, t] ty #[v, .slice (some ⟨g1, 0, none⟩) 1 1]).run Try.prog w = .ok (.slice (some ⟨g, 0, none⟩) (L.length + 1) cap) w' ∧ OwnR w' base (.slice (some ⟨g, 0, none⟩) (L.length + 1) cap) (L ++ [l]) ∧ Below base wr w' ∧ wr.grownBy w' v.ownBlock := by
  obtain ⟨i0, hi, hz0, hz1, hz2⟩ := info_parts info26
  obtain ⟨us, k1, k2, k3, k4⟩ := hO
  have hown := own_keep k1 hb
  obtain ⟨q, qc, qcur, rfl, q1, q2, q3⟩ := id hu.form
  obtain ⟨g, cap, w', hrun, h2, hg, hat, h5⟩ := run_append_lies (P := Try.prog) w t ty base 26 i0 (.slice none 0 0) 1 24 ht hi hz0 hz1 hz2 rfl (by decide) v L.length us hown ⟨g1, 0, none⟩ 1 1 [.slice (some ⟨q, 0, none⟩) l.length qc] rfl
    (fun j u hj => by
      have hj0 : j = 0 := by have := (List.getElem?_eq_some_iff.1 hj).1; simp at this; exact this
      subst hj0
      obtain rfl : Value.slice (some ⟨q, 0, none⟩) l.length qc = u := by simpa using hj
      exact cell_at hblk rfl) (by intro u hu; obtain rfl := List.mem_singleton.1 hu; rfl) (by decide) (by unfold maxLen; omega) (by omega) (by have := hb.size; omega) _ rfl
  have hlt : ∀ x ∈ us, ∀ k, x.ownBlock = some k → base ≤ k ∧ k < wr.heap.size := by
    intro x hx
    obtain ⟨i, hi, rfl⟩ := List.getElem_of_mem hx
    exact (k3 i us[i] (L[i]'(by omega)) (List.getElem?_eq_getElem hi) (List.getElem?_eq_getElem (by omega))).1.1.lt
  have hvb : ∀ k, v.ownBlock = some k → base ≤ k ∧ k < wr.heap.size := k1.lt
  have hql : q < w.heap.size := block_lt q2
  have hbs := hb.size
  have hsome : ∀ x ∈ us, ∃ k, x.ownBlock = some k := by
    intro x hx
    obtain ⟨i, hi, rfl⟩ := List.getElem_of_mem hx
    obtain ⟨g, cap, cur, e, _⟩ := (k3 i us[i] (L[i]'(by omega)) (List.getElem?_eq_getElem hi) (List.getElem?_eq_getElem (by omega))).1.form
    exact ⟨g, by rw [e]; rfl⟩
  have hne : ∀ (i : Nat) (x : Value) (y : List UInt8), us[i]? = some x → L[i]? = some y → some g ≠ x.ownBlock := by
    intro i x y hx hy e
    rcases hat with h | h
    · exact (k3 i x y hx hy).2 (h.trans e)
    · have := hlt x (List.mem_of_getElem? hx) g e.symm; omega
  have hgq : g ≠ q := by
    intro e
    subst e
    rcases hat with h | h
    · have := (hvb g h).2; omega
    · omega
  refine ⟨g, cap, w', hrun, ⟨us ++ [.slice (some ⟨q, 0, none⟩) l.length qc], by rw [List.length_append]; exact h2, by simp [k2], ?_, ?_⟩, ?_, ?_⟩
  · intro i x y hx hy
    rcases Nat.lt_or_ge i us.length with hi | hi
    · rw [List.getElem?_append_left hi] at hx
      rw [List.getElem?_append_left (by omega)] at hy
      obtain ⟨h6, h7⟩ := k3 i x y hx hy
      refine ⟨⟨((h6.keep hb).1).kept hg (.inr fun e => h7 e.symm), h6.2⟩, hne i x y hx hy⟩
    · rw [List.getElem?_append_right hi] at hx
      rw [List.getElem?_append_right (by omega)] at hy
      have h0 : i - us.length = 0 := by
        have := (List.getElem?_eq_some_iff.1 hx).1
        simp at this; omega
      rw [← k2, h0] at hy
      rw [h0] at hx
      obtain rfl : Value.slice (some ⟨q, 0, none⟩) l.length qc = x := by simpa using hx
      obtain rfl : l = y := by simpa using hy
      refine ⟨⟨World.ownsRow.kept ⟨hu.1.1, ?_⟩ hg (.inr fun e => ?_), hu.2⟩, fun e => hgq (by simpa [Value.ownBlock] using e)⟩
      · rcases hu.1.2 with ⟨e, _⟩ | ⟨g', cap', cur', e, a, b⟩
        · cases e
        · exact .inr ⟨g', cap', cur', e, by omega, b⟩
      · have := hvb q (by rw [← e]; rfl); omega
  · intro i j x y hij hx hy
    rcases Nat.lt_or_ge i us.length with hi | hi
    · rw [List.getElem?_append_left hi] at hx
      rcases Nat.lt_or_ge j us.length with hj | hj
      · rw [List.getElem?_append_left hj] at hy
        exact k4 i j x y hij hx hy
      · rw [List.getElem?_append_right hj] at hy
        have h0 : j - us.length = 0 := by
          have := (List.getElem?_eq_some_iff.1 hy).1
          simp at this; omega
        rw [h0] at hy
        obtain rfl : Value.slice (some ⟨q, 0, none⟩) l.length qc = y := by simpa using hy
        intro e
        have := (hlt x (List.mem_of_getElem? hx) q e).2; omega
    · rw [List.getElem?_append_right hi] at hx
      have h0 : i - us.length = 0 := by
        have := (List.getElem?_eq_some_iff.1 hx).1
        simp at this; omega
      rw [h0] at hx
      obtain rfl : Value.slice (some ⟨q, 0, none⟩) l.length qc = x := by simpa using hx
      rcases Nat.lt_or_ge j us.length with hj | hj
      · rw [List.getElem?_append_left hj] at hy
        intro e
        have := (hlt y (List.mem_of_getElem? hy) q e.symm).2; omega
      · have := (List.getElem?_eq_some_iff.1 hy).1
        simp at this; omega
  · refine (hb.mono hbase).trans ⟨hg.os, hg.tape, hg.output, hg.size, fun k hk => hg.block k (by omega) fun e => ?_⟩
    have := (hvb k e.symm).1; omega
  · exact ⟨hg.os.trans hb.os, hg.tape.trans hb.tape, hg.output.trans hb.output, Nat.le_trans hb.size hg.size, fun k hk hne => (hg.block k (Nat.lt_of_lt_of_le hk hb.size) hne).trans (hb.block k hk)⟩
theorem wp_pushR {wr w : World} {o : Oper} {a : Act} {K : Act → World → Prop} {Q : Exit → Act → World → Prop} (s y : Operand) (t : TypeId) (ho : o.op = .call { callee := .builtin .append, args := #[s, y], argTypes := #[t, t] }) (ht : Try.prog.underlying t = some (.slice 26))
    {base : Nat} {v : Value} {L : List (List UInt8)} {u : Value} {g1 : Nat} {l : List UInt8} {bt : TypeId} (hs : a.eval s = v) (hy : a.eval y = .slice (some ⟨g1, 0, none⟩) 1 1) (hO : OwnR wr base v L) (hb : Below wr.heap.size wr w) (hu : OwnB w wr.heap.size u l) (hbase : base ≤ wr.heap.size)
    (hblk : w.heap[g1]? = some (.cells #[u] bt (0, 0))) (hL : L.length ≤ 1000)
    (h : ∀ g cap w', OwnR w' base (.slice (some ⟨g, 0, none⟩) (L.length + 1) cap) (L ++ [l]) → Below base wr w' → wr.grownBy w' v.ownBlock → K (a.put o.dst (.slice (some ⟨g, 0, none⟩) (L.length + 1) cap)) w') : o.wp Try.prog a w K Q := by
  obtain ⟨g, cap, w', hr, h2, h3, h4⟩ := run_pushR (ty := o.type) ht hO hb hu hbase hblk hL
  unfold Oper.wp execOp
  simp only [ho, resolve, invoke, builtin, Sem.run_bind, Sem.run_pure, Result.andThen_ok, List.map_toArray, List.map_cons, List.map_nil, hs, hy, hr]
  exact h g cap w' h2 h3 h4
theorem wpList_pushR {wr w : World} {ops : Array Oper} {rest : List Oper} {o : Oper} {a : Act} {Q : Exit → Act → World → Prop} (hgd : o.guard = none) (s y : Operand) (t : TypeId) (ho : o.op = .call { callee := .builtin .append, args := #[s, y], argTypes := #[t, t] }) (ht : Try.prog.underlying t = some (.slice 26))
    {base : Nat} {v : Value} {L : List (List UInt8)} {u : Value} {g1 : Nat} {l : List UInt8} {bt : TypeId} (hs : a.eval s = v) (hy : a.eval y = .slice (some ⟨g1, 0, none⟩) 1 1) (hO : OwnR wr base v L) (hb : Below wr.heap.size wr w) (hu : OwnB w wr.heap.size u l) (hbase : base ≤ wr.heap.size)
    (hblk : w.heap[g1]? = some (.cells #[u] bt (0, 0))) (hL : L.length ≤ 1000)
    (h : ∀ g cap w', OwnR w' base (.slice (some ⟨g, 0, none⟩) (L.length + 1) cap) (L ++ [l]) → Below base wr w' → wr.grownBy w' v.ownBlock → wpList Try.prog ops Q rest (a.put o.dst (.slice (some ⟨g, 0, none⟩) (L.length + 1) cap)) w') : wpList Try.prog ops Q (o :: rest) a w :=
  wpList_plain hgd fun _ hK => wp_pushR s y t ho ht hs hy hO hb hu hbase hblk hL fun g cap w' h2 h3 h4 => hK _ _ (h g cap w' h2 h3 h4)
theorem not_row {W : World} {b : Nat} {cs : Array Value} {t e : TypeId} (h : W.heap[b]? = some (.cells cs t (0, 0))) (hte : t ≠ e) {base size k : Nat} {v : Value} {xs : List Value} (hr : W.ownsRow base e size v k xs) : some b ≠ v.ownBlock := by
  rcases hr.2 with ⟨rfl, _⟩ | ⟨g, cap, cur, rfl, _, hgb, _⟩
  · simp [Value.ownBlock]
  · intro e'
    obtain rfl : b = g := by simpa [Value.ownBlock] using e'
    have := h.symm.trans hgb
    simp at this
    exact hte this.2
theorem OwnR.row_ne {w : World} {base : Nat} {v : Value} {L : List (List UInt8)} (h : OwnR w base v L) {b : Nat} {cs : Array Value} {t : TypeId} (hb : w.heap[b]? = some (.cells cs t (0, 0))) (hte : t ≠ 26) : some b ≠ v.ownBlock := by
  obtain ⟨us, h1, _⟩ := h
  exact not_row hb hte h1
theorem cell_other {w : World} {p : Addr} {v u : Value} {g i : Nat} (h : w.cell? p = some v) (hne : p.block ≠ g) : (w.setCell ⟨g, i, none⟩ u).cell? p = some v :=
  (World.cell?_of_block (w := w) (Below.heap_setCell _ _ _ _ hne)).trans h
theorem block_other {w : World} {b : Nat} {o : Obj} {u : Value} {g i : Nat} (h : w.heap[b]? = some o) (hne : b ≠ g) : (w.setCell ⟨g, i, none⟩ u).heap[b]? = some o := (Below.heap_setCell _ _ _ _ hne).trans h
/-- One of the pages: where it lies, and what they are when one byte of it is stored. -/
theorem OwnR.open_ {w : World} {base : Nat} {v : Value} {L : List (List UInt8)} (h : OwnR w base v L) {k : Nat} {l : List UInt8} (hk : L[k]? = some l) :
    ∃ b c g gc, v = .slice (some ⟨b, 0, none⟩) L.length c ∧ base ≤ b ∧ w.cell? ⟨b, k, none⟩ = some (.slice (some ⟨g, 0, none⟩) l.length gc) ∧ base ≤ g ∧ b ≠ g ∧ l.length ≤ gc ∧ gc ≤ 9223372036854775807 ∧ (∃ cur, w.heap[g]? = some (.cells cur 5 (0, 0)) ∧ cur.size = gc) ∧
      ∀ (i : Nat) (c : UInt8), i < l.length → OwnR (w.setCell ⟨g, i, none⟩ (.int .u8 c.toNat)) base v (L.set k (l.set i c)) := by
  obtain ⟨us, h1, h2, h3, h4⟩ := h
  have hkl : k < L.length := (List.getElem?_eq_some_iff.1 hk).1
  have hku : k < us.length := by omega
  obtain ⟨h6, h7⟩ := h3 k us[k] l (List.getElem?_eq_getElem hku) hk
  obtain ⟨g, gc, cur, eu, k1, k2, k3, k4, k5, k6⟩ := h6.form
  rcases id h1.2 with ⟨rfl, h0⟩ | ⟨b, cap, bcur, rfl, hb, hbb, hn, hc, hs, ht⟩
  · omega
  · have hne : b ≠ g := fun e => h7 (by rw [eu, e]; rfl)
    refine ⟨b, cap, g, gc, rfl, hb, ?_, k1, hne, k3, by unfold maxLen at k4; omega, ⟨cur, k2, k5⟩, fun i c hi => ⟨us, ?_, by rw [List.length_set, h2], fun j x y hx hy => ?_, h4⟩⟩
    · have := h1.cells (g := b) rfl k us[k] (List.getElem?_eq_getElem hku)
      have hadd : (⟨b, 0, none⟩ : Addr).add k = ⟨b, k, none⟩ := by
        unfold Addr.add; split
        · rename_i h0; subst h0; simp
        · simp
      rw [hadd, eu] at this
      exact this
    · rw [List.length_set]
      refine ⟨h1.1, .inr ⟨b, cap, bcur, rfl, hb, ?_, hn, hc, hs, ht⟩⟩
      exact block_other hbb hne
    · rw [List.getElem?_set] at hy
      by_cases e : k = j
      · subst e
        rw [if_pos rfl, if_pos hkl] at hy
        obtain rfl : l.set i c = y := by simpa using hy
        rw [List.getElem?_eq_getElem hku] at hx
        obtain rfl : us[k] = x := by simpa using hx
        refine ⟨⟨⟨by simp [bytesV], ?_⟩, h6.2⟩, h7⟩
        refine .inr ⟨g, gc, cur.setIfInBounds i (.int .u8 c.toNat), by rw [eu]; simp, k1, ?_, by simpa using k3, k4, by simp [k5], ?_⟩
        · simp [World.setCell, Array.getElem?_modify, k2]
        · rw [Nat.mul_one, List.length_set, Array.toList_setIfInBounds, List.take_set, k6]
          unfold bytesV
          rw [List.map_set]
      · rw [if_neg e] at hy
        obtain ⟨h8, h9⟩ := h3 j x y hx hy
        refine ⟨⟨World.ownsRow.kept h8.1 (row := some g) ⟨rfl, rfl, rfl, by simp [World.setCell], fun m hm hne' => Below.heap_setCell _ _ _ _ fun e' => hne' (by rw [e'])⟩ (.inr fun e' => ?_), h8.2⟩, h9⟩
        exact h4 k j us[k] x e (List.getElem?_eq_getElem hku) hx (by rw [eu, e']; rfl)
end Go.Proofs.Ytcembocnkndlhaa
