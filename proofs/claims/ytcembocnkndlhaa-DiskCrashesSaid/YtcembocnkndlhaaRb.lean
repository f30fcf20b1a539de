/- The reference's walks: pages, execute. -/
import Derived.Test.YtcembocnkndlhaaRa
namespace Go.Proofs.Ytcembocnkndlhaa
open Go.RowKit
theorem run_bytes0 {w : World} {g0 : Nat} {x : Value} {l : List UInt8} {ty : TypeId} (hblk : w.heap[g0]? = some (.cells #[] 5 (0, 0))) (hx : IsBytes w x l) (hl : l.length ≤ 100000000) :
    ∃ g cap w', (Builtin.append_ #[26, 26] ty #[.slice (some ⟨g0, 0, none⟩) 0 0, x]).run Try.prog w = .ok (.slice (some ⟨g, 0, none⟩) l.length cap) w' ∧ OwnB w' g0 (.slice (some ⟨g, 0, none⟩) l.length cap) l ∧ Below g0 w w' := by
  obtain ⟨i0, hi, hz0, hz1, hz2⟩ := info_parts info5
  have h0 : w.ownsRow g0 5 1 (.slice (some ⟨g0, 0, none⟩) 0 0) 0 [] := ⟨rfl, .inr ⟨g0, 0, #[], rfl, Nat.le_refl _, hblk, Nat.le_refl _, by decide, rfl, rfl⟩⟩
  obtain ⟨v', w', hrun, h2, h3, h4⟩ := run_append_rows encB 26 ty g0 5 i0 (.int .u8 0) 1 1 Try.underlying26 hi hz0 hz1 hz2 rfl (by decide) _ 0 [] h0 x l hx (fun _ _ => rfl) (bytes_one l) (by unfold maxLen; omega) (by omega) (Nat.le_of_lt (block_lt hblk))
  have hO : OwnB w' g0 v' l := by
    refine ⟨?_, ?_⟩
    · rw [flat_bytes] at h2; simpa using h2
    · rintro rfl
      rcases h4 with h | h <;> cases h
  obtain ⟨g, cap, cur, rfl, k1, k2, _⟩ := id hO.form
  exact ⟨g, cap, w', hrun, hO, (Below.refl _ _).grown h3 (Nat.le_of_lt (block_lt hblk)) (own_from h0)⟩
theorem wpList_bytes0 {w : World} {ops : Array Oper} {rest : List Oper} {o : Oper} {a : Act} {Q : Exit → Act → World → Prop} (hgd : o.guard = none) (s y : Operand) (ho : o.op = .call { callee := .builtin .append, args := #[s, y], argTypes := #[26, 26] })
    {g0 : Nat} {x : Value} {l : List UInt8} (hs : a.eval s = .slice (some ⟨g0, 0, none⟩) 0 0) (hblk : w.heap[g0]? = some (.cells #[] 5 (0, 0))) (hy : a.eval y = x) (hx : IsBytes w x l) (hl : l.length ≤ 100000000)
    (h : ∀ g cap w', OwnB w' g0 (.slice (some ⟨g, 0, none⟩) l.length cap) l → Below g0 w w' → wpList Try.prog ops Q rest (a.put o.dst (.slice (some ⟨g, 0, none⟩) l.length cap)) w') : wpList Try.prog ops Q (o :: rest) a w :=
  wpList_plain hgd fun K hK => by
    obtain ⟨g, cap, w', hr, h2, h3⟩ := run_bytes0 (ty := o.type) hblk hx hl
    unfold Oper.wp execOp
    simp only [ho, resolve, invoke, builtin, Sem.run_bind, Sem.run_pure, Result.andThen_ok, List.map_toArray, List.map_cons, List.map_nil, hs, hy, hr]
    exact hK _ _ (h g cap w' h2 h3)
theorem OwnB.mono {w : World} {base base' : Nat} {u : Value} {l : List UInt8} (h : OwnB w base u l) (hb : base' ≤ base) : OwnB w base' u l := by
  refine ⟨⟨h.1.1, ?_⟩, h.2⟩
  rcases h.1.2 with h | ⟨g, cap, cur, e, a, b⟩
  · exact .inl h
  · exact .inr ⟨g, cap, cur, e, by omega, b⟩
theorem below_alloc_then {w w' : World} {o : Obj} (h : Below w.heap.size (w.alloc o) w') : Below w.heap.size w w' := ((Below.refl _ _).alloc (Nat.le_refl _) _).trans h
set_option maxHeartbeats 2000000 in
set_option maxRecDepth 100000 in
theorem rpages_any (v : Value) (L : List (List UInt8)) (w : World) (h : IsPages w v L) (hl : L.length ≤ 1000) (hl2 : Hid (∀ p ∈ L, p.length ≤ 1000000)) :
    Calls Try.prog 60 #[v] w fun e w' => ∃ u, e = .returned u ∧ OwnR w' w.heap.size u L ∧ Below w.heap.size w w' := by
  have h0 := h
  obtain ⟨a, c, rfl, hm⟩ := h.shape
  go_enter Try.func60, Try.ntmps60
  go_wp2
  go_loopw [3, 4] (fun vo i wr => ∃ k : Nat, k ≤ L.length ∧ i = .int .i64 k ∧ OwnR wr w.heap.size vo (L.take k) ∧ Below w.heap.size w wr) (fun _ i _ => L.length - (intOf i).toNat)
  case atStart => exact ⟨0, Nat.zero_le _, rfl, OwnR.nil _ _, Below.refl _ _⟩
  case round =>
    obtain ⟨k, hk, rfl, hO, hb⟩ := hrel
    by_cases hlt : k < L.length
    · obtain ⟨wo, rfl⟩ : ∃ wo : World, wo = wr := ⟨_, rfl⟩
      obtain ⟨b, off, pa, pc, rfl, hc, hp⟩ := (h0.keep hb).at_ (List.getElem?_eq_getElem hlt)
      have hp2 : L[k].length ≤ 100000000 := by have := hl2.out L[k] (List.getElem_mem hlt); omega
      have HT := Lib.hid (List.take_succ_eq_append_getElem hlt)
      have hLk : (L.take k).length ≤ 1000 := by rw [List.length_take]; omega
      generalize L[k] = l at *
      generalize L.take k = M at *
      obtain ⟨va, vc, rfl, _⟩ := hO.len
      have b1 := below_new wo (.cells #[] 5)
      have hs := hb.size
      have hc' := cell_keep b1 hc
      go_wp2_with (first
        | (at_builtin; refine wpList_bytes0 rfl (.tmp 12) (.tmp 16) rfl (g0 := wo.heap.size) rfl (heap_alloc_new wo _) rfl (hp.keep b1) hp2 ?_; intro g cap w2 hB2 b2)
        | (at_builtin; refine wpList_pushR (wr := wo) rfl (.tmp 11) (.tmp 18) 22 rfl Try.underlying22 rfl rfl hO (below_alloc' (below_alloc_then b2)) (OwnB.keep hB2 (below_new _ _)) hs (heap_alloc_new w2 _) hLk ?_; intro g' cap' w3 hO3 b3 _))
      go_roundw
      case rel => exact ⟨k + 1, by omega, by go_num, by rw [HT.out]; exact hO3, hb.trans b3⟩
      case measure => simp [intOf]; omega
    · have e : k = L.length := by omega
      subst e
      rw [List.take_length] at hO
      go_wp2
      go_ret
      exact ⟨_, rfl, hO, hb⟩
end Go.Proofs.Ytcembocnkndlhaa
