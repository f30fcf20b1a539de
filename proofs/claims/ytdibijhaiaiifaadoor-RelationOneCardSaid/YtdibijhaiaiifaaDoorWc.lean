/- The walk of list: a word's canonical list of spans. -/
import Derived.Test.YtdibijhaiaiifaaDoorWb
import Derived.RangeFuncNested
import Derived.RangeFuncBound
import Derived.RangeFuncCalls
import Derived.RangeFuncLeaves
import Derived.RangeFuncBox
import Derived.Shelf.Abstract
import Derived.Shelf.RegionOpen
import Derived.OwnWalkIn
import Derived.TacticsInMore
import Derived.LoopNIn
import Derived.LoopIn
import Derived.Maps.AppendAt
namespace Go.Proofs.YtdibijhaiaiifaaDoor
open Go.RowKit Go.Shelf
attribute [local go_sem] Oper.semAt_some
def flat (l : List Sp) : List Value := l.flatMap fun s => [.int .i64 s.1, .int .i64 s.2]
theorem flat_length (l : List Sp) : (flat l).length = l.length * 2 := by
  induction l with
  | nil => rfl
  | cons s l ih => simp only [flat, List.flatMap_cons, List.length_append, List.length_cons, List.length_nil] at *; omega
theorem flat_append (a b : List Sp) : flat (a ++ b) = flat a ++ flat b := by simp [flat]
theorem flat_get (l : List Sp) : ∀ i, i < l.length → (flat l)[i * 2]? = some (.int .i64 (l.getD i (0, 0)).1) ∧ (flat l)[i * 2 + 1]? = some (.int .i64 (l.getD i (0, 0)).2) := by
  induction l with
  | nil => intro i h; simp at h
  | cons s l ih =>
    intro i hi
    have e : flat (s :: l) = .int .i64 s.1 :: .int .i64 s.2 :: flat l := rfl
    rw [e]
    cases i with
    | zero => simp
    | succ i =>
      have := ih i (by simpa using hi)
      rw [show (i + 1) * 2 = i * 2 + 2 from by omega]
      simpa using this
theorem IsSpans.of_owns {W : World} {base : Nat} {v : Value} {l : List Sp} (h : W.ownsRow base 86 2 v l.length (flat l)) (hl : l.length ≤ 9223372036854775807) : IsSpans W v l := by
  obtain ⟨_, h2⟩ := h
  rcases h2 with ⟨rfl, h0⟩ | ⟨g, cap, cur, rfl, _, hg, hn, hcm, hsz, htake⟩
  · have : l = [] := List.eq_nil_of_length_eq_zero h0
    subst this
    exact ⟨none, 0, rfl, .inl rfl, by simp, by simp, by simp⟩
  · refine ⟨_, cap, rfl, .inr ⟨g, 0, rfl, fun i hi => ?_⟩, hl, hn, by unfold maxLen at hcm; omega⟩
    obtain ⟨f1, f2⟩ := flat_get l i hi
    have key : ∀ j u, j < l.length * 2 → (flat l)[j]? = some u → W.cell? ⟨g, 0 + j, none⟩ = some u := by
      intro j u hj hu
      rw [← htake, List.getElem?_take, if_pos hj] at hu
      rw [Nat.zero_add]
      unfold World.cell?
      rw [hg]
      simpa using hu
    exact ⟨key _ _ (by omega) f1, key _ _ (by omega) f2⟩
theorem Tryd.info86 : (Tryd.prog.info? 86).map (fun i => (i.zero, i.size, i.bytes)) = some (some (.agg #[.int .i64 0, .int .i64 0]), 2, 16) := by kernel_rfl
theorem cells_two_new (w : World) (x y : Value) (t : TypeId) : ∀ j u, [x, y][j]? = some u → (w.alloc (.cells #[x, y] t)).cell? ((⟨w.heap.size, 0, none⟩ : Addr).add j) = some u := by
  intro j u hj
  have e : (w.alloc (.cells #[x, y] t)).heap[w.heap.size]? = some (.cells #[x, y] t) := World.alloc_heap_new w _
  match j, hj with
  | 0, hj => simp at hj; subst hj; exact cell_of_row _ w.heap.size 0 #[x, y] t (0, 0) e
  | 1, hj => simp at hj; subst hj; exact cell_of_row _ w.heap.size 1 #[x, y] t (0, 0) e
set_option maxRecDepth 100000 in
set_option maxHeartbeats 2000000 in
theorem list_in (x : Nat) (hx : x < 18446744073709551616) (w : World) (hT : Tab w) :
    CallsIn Fence.wide 4 Tryd.prog 98 #[.int .u64 x] w fun e w' => ∃ v, e = .returned v ∧ IsSpansF w' w.heap.size v (canon (bitsOf x)) ∧ Below w.heap.size w w' := by
  obtain ⟨i0, hi, hz0, hz1, hz2⟩ := info_parts Tryd.info86
  refine callsIn_of_wp_marks Tryd.func98 rfl trivial ?_ rfl
  simp only [Tryd.ntmps98, List.size_toArray, List.length_cons, List.length_nil, Nat.reduceAdd, Nat.reduceSub, Array.replicate_succ, Array.replicate_zero, List.push_toArray, List.append_toArray, List.nil_append, List.cons_append]
  gi_wp2
  have bO := Boxed.new w 26 (.slice none 0 0)
  have hB0 : Below w.heap.size w (w.alloc (.cells #[.slice none 0 0] 26)) := (Below.refl _ w).alloc (Nat.le_refl _) _
  refine wp_range (f := 132) (fs := #[.int .u64 x]) (lb := #[]) rfl (enters_of Tryd.func132 (by kernel_rfl) rfl) (encs := fun s : Sp => #[.agg #[.int .i64 s.1, .int .i64 s.2]]) (fun _ => rfl) (canon (bitsOf x)) 32
    (fun pre W => (∃ v, Boxed W w.heap.size 26 v ∧ W.ownsRow w.heap.size 86 2 v pre.length (flat pre) ∧ True) ∧ Below w.heap.size w W)
    (OwnFrom.and (Own.from (holdsRow_own w.heap.size w.heap.size 26 86 2 (fun pre => pre.length) flat (fun _ _ => True)) _) (ownFrom_below (Nat.le_refl _) (by simp)))
    ⟨⟨_, bO, World.ownsRow_nil _ _ _ _, trivial⟩, hB0⟩
    (fun s a' W => ∃ b, w.heap.size < b ∧ W.cell? ⟨b, 0, none⟩ = some (.int .i64 s.1) ∧ W.cell? ⟨b, 1, none⟩ = some (.int .i64 s.2) ∧
      a' = { tmps := #[.int .u64 x, undef, .slice none 0 0, .pointer (some ⟨w.heap.size, 0, none⟩), .pointer (some ⟨b, 0, none⟩), .int .u64 x, .func (.func 132) #[.int .u64 x] #[], .agg #[.int .i64 s.1, .int .i64 s.2], undef, undef, undef, undef, undef], defers := [] })
    (Own.from (fun s A B row hs hg hr => by obtain ⟨b, h1, h2, h3, h4⟩ := hs; exact ⟨b, h1, cell_kept h2 hg hr, cell_kept h3 hg hr, h4⟩) _) ?assign ?body ?seq ?done
  case assign =>
    rintro l pre ⟨p, q⟩ W K ⟨⟨v, hv, hrow, -⟩, hB⟩ hK
    gi_wp2
    have e : (W.alloc (.cells #[.int .i64 p, .int .i64 q] 86)).heap[W.heap.size]? = some (.cells #[.int .i64 p, .int .i64 q] 86) := World.alloc_heap_new W _
    exact hK _ _ ((KeepsOthers.alloc _ _).from _) ⟨⟨v, hv.alloc _, hrow.alloc _, trivial⟩, hB.alloc hB.size _⟩ ⟨W.heap.size, hv.lt, cell_of_row _ W.heap.size 0 _ 86 (0, 0) e, cell_of_row _ W.heap.size 1 _ 86 (0, 0) e, rfl⟩
  case body =>
    rintro l pre ⟨p, q⟩ a' W ⟨⟨v, hv, hrow, -⟩, hB⟩ ⟨b, hb, c1, c2, rfl⟩ hlt
    have hc := hv.cell
    dsimp only at c1 c2
    gi_wp2_with (gi_at_builtin; refine wpListIn_append_own _ rfl _ _ 26 rfl w.heap.size 86 i0 (.agg #[.int .i64 0, .int .i64 0]) 2 16 Tryd.underlying26 hi hz0 hz1 hz2 rfl (by decide) _ _ _ rfl (hrow.alloc _) ⟨W.heap.size, 0, none⟩ 1 1 [.int .i64 p, .int .i64 q] rfl rfl (cells_two_new _ _ _ _) (by simp [Value.oneCell']) (by unfold maxLen; omega) (by omega) (by have := hB.size; simp; omega) ?_; intro v' w1 hown' hgrow _; obtain ⟨g', cap', rfl⟩ := ownsRow_succ hown'; obtain ⟨hv1, hv2, hr2, hk2, hb2⟩ := hv.appended (by decide) hrow hB.size (Nat.le_refl _) hown' hgrow; have hc1 := hv1.cell; have hf1 := hv1.frozen)
    exact ⟨hk2.from _, ⟨_, hv2, by simpa [flat_append, flat] using hr2⟩, hB.trans hb2⟩
  case seq =>
    intro J W hJI hY h0
    exact spans_in _ x hx J (fun pre W h => hT.keep (hJI pre W h).2) hY W h0
  case done =>
    rintro W ⟨⟨v, hv, hrow, -⟩, hB⟩ hK
    have hc := hv.cell
    have hlen := canon_le (bitsOf x)
    gi_wp2
    refine ⟨by simp, .inl ⟨_, _, rfl, run_takeDeferred hK, ?_⟩⟩
    exact ⟨_, results_tmp rfl _ _ _, v, rfl, ⟨.of_owns (ownsRow_putObj hrow _ hK rfl) (by omega), fun b hb => (hrow.lt b hb).1⟩, hB.trans (belowK_b (w := w) (Nat.le_refl _) W _ _ _ (by simp) hK rfl rfl)⟩
theorem list_any (x : Nat) (hx : x < 18446744073709551616) (w : World) (hT : Tab w) :
    Calls Tryd.prog 98 #[.int .u64 x] w fun e w' => ∃ v, e = .returned v ∧ IsSpansF w' w.heap.size v (canon (bitsOf x)) ∧ Below w.heap.size w w' := callsIn_wide.1 (list_in x hx w hT)
end Go.Proofs.YtdibijhaiaiifaaDoor
