/- The walk of Backward over writes, and of Read. -/
import Derived.Test.YtcembocnkndlhaaWj
import Derived.RangeFuncNested
import Derived.RangeFuncBound
import Derived.RangeFuncCalls
import Derived.RangeFuncLeaves
import Derived.RangeFuncBox
import Derived.Shelf.Abstract
import Derived.Shelf.RegionOpen
import Derived.OwnWalkIn
import Derived.TacticsInMore
import Derived.LoopNIn
import Derived.LoopIn
namespace Go.Proofs.Ytcembocnkndlhaa
open Go.RowKit Go.Shelf
attribute [local go_sem] Oper.semAt_some
/-- The indices from the last one down to k. -/
def down (n k : Nat) : List (Fin n) := ((List.finRange n).drop k).reverse
theorem down_succ {n k : Nat} (h : k < n) : down n k = down n (k + 1) ++ [⟨k, h⟩] := by
  unfold down
  have hl : k < (List.finRange n).length := by simpa using h
  rw [List.drop_eq_getElem_cons hl, List.reverse_cons]
  simp
theorem down_top (n : Nat) : down n n = [] := by
  unfold down
  rw [List.drop_of_length_le (by simp)]; rfl
theorem down_length (n k : Nat) : (down n k).length = n - k := by simp [down]
theorem mem_down {n k : Nat} {i : Fin n} : i ∈ down n k ↔ k ≤ i.1 := by
  unfold down
  rw [List.mem_reverse, List.mem_iff_getElem?]
  constructor
  · rintro ⟨j, hj⟩
    rw [List.getElem?_drop] at hj
    obtain ⟨h1, h2⟩ := List.getElem?_eq_some_iff.1 hj
    simp at h2
    rw [← h2]; simp
  · intro h
    refine ⟨i.1 - k, ?_⟩
    rw [List.getElem?_drop, List.getElem?_eq_some_iff]
    exact ⟨by simp; omega, by simp; apply Fin.ext; simp; omega⟩
section
variable {len : Nat} (at_ : Fin len → Int) (fa : Fin len → Option Addr) (fl fc : Fin len → Nat)
def encX (i : Fin len) : Array Value := #[.int .i64 (i.1 : Int), .agg #[.int .i64 (at_ i), .slice (fa i) (fl i) (fc i)]]
set_option maxRecDepth 100000 in
set_option maxHeartbeats 2000000 in
theorem back1_in (l Bs n₀ : Nat) (sa : Option Addr) (cap : Nat) (hcap : len ≤ cap) (hcap2 : cap ≤ 9223372036854775807) (J Jx : List (Fin len) → World → Prop)
    (hY : ∀ pre (x : Fin len) W, J pre W → pre.length < len → YieldAt Fence.wide 2 Try.prog l (encX at_ fa fl fc x) W fun e W' =>
      (e = .returned (.bool true) ∧ J (pre ++ [x]) W' ∧ Below n₀ W W') ∨ (e = .returned (.bool false) ∧ Jx (pre ++ [x]) W'))
    (W : World) (hBs : ∀ W', Below n₀ W W' → W'.cell? ⟨Bs, 0, none⟩ = some (.slice sa len cap)) (hc : ∀ (i : Fin len) W', Below n₀ W W' → ∃ b off, sa = some ⟨b, off, none⟩ ∧ W'.cell? ⟨b, off + i.1 * 2, none⟩ = some (.int .i64 (at_ i)) ∧ W'.cell? ⟨b, off + i.1 * 2 + 1, none⟩ = some (.slice (fa i) (fl i) (fc i))) (h0 : J [] W) :
    CallsIn Fence.wide 3 Try.prog 76 #[.func (.yield l) #[] #[], .pointer (some ⟨Bs, 0, none⟩)] W fun e W' => (∃ v, e = .returned v) ∧
      ((∃ ys, ys = down len 0 ∧ J ys W') ∨ (∃ pre, (∃ k, k < len ∧ pre = down len k) ∧ Jx pre W')) := by
  refine callsIn_of_wp Try.func76 rfl trivial ?_ rfl
  simp only [Try.ntmps76, List.size_toArray, List.length_cons, List.length_nil, Nat.reduceAdd, Nat.reduceSub, Array.replicate_succ, Array.replicate_zero, List.push_toArray, List.append_toArray, List.nil_append, List.cons_append]
  have hb0 := hBs W (Below.refl _ _)
  gi_wp2
  gi_loopw [3] (fun i wr => ∃ (k : Nat) (z : Int), k ≤ len ∧ Hid (z = (k : Int) - 1) ∧ i = .int .i64 z ∧ J (down len k) wr ∧ Below n₀ W wr)
    (fun i _ => (intOf i + 1).toNat)
  case atStart => exact ⟨len, _, Nat.le_refl _, Lib.hid rfl, rfl, by rw [down_top]; exact h0, Below.refl _ _⟩
  case round =>
    obtain ⟨k, z, hk, hz, rfl, hJs, hnx⟩ := hrel
    cases k with
    | zero =>
      obtain rfl : z = -1 := by have := hz.out; omega
      gi_wp2
      go_end0
      exact ⟨⟨_, rfl⟩, .inl ⟨_, rfl, hJs⟩⟩
    | succ j =>
      obtain rfl : z = (j : Int) := by have := hz.out; omega
      have hjl : j < len := by omega
      have hBx := hBs wr hnx
      obtain ⟨b, off, rfl, c0, c1⟩ := hc ⟨j, hjl⟩ wr hnx
      dsimp only at c0 c1
      obtain ⟨fn, tmps, assign, body, hy, hR⟩ := hY _ ⟨j, hjl⟩ wr hJs (by rw [down_length]; omega)
      rw [← down_succ hjl] at hR
      unfold encX at hy
      dsimp only at hy
      have hj0 : (0 : Int) ≤ (j : Int) := by omega
      gi_wp2
      refine hR.mono ?_
      rintro e W3 (⟨rfl, hJ3, hk3⟩ | ⟨rfl, hJx3⟩)
      · gi_wp2
        go_roundw
        case rel => exact ⟨j, _, by omega, Lib.hid rfl, rfl, hJ3, hnx.trans hk3⟩
        case measure => simp [intOf]
      · gi_wp2
        refine bodyPost_ret (results_none rfl _ _ _) rfl ?_
        exact ⟨⟨_, rfl⟩, .inr ⟨_, ⟨j, hjl, rfl⟩, hJx3⟩⟩
theorem back_stops (Bs n₀ : Nat) (sa : Option Addr) (cap : Nat) (hcap : len ≤ cap) (hcap2 : cap ≤ 9223372036854775807) (w : World) (hn : n₀ ≤ w.heap.size)
    (hBs : ∀ W', Below n₀ w W' → W'.cell? ⟨Bs, 0, none⟩ = some (.slice sa len cap)) (hc : ∀ (i : Fin len) W', Below n₀ w W' → ∃ b off, sa = some ⟨b, off, none⟩ ∧ W'.cell? ⟨b, off + i.1 * 2, none⟩ = some (.int .i64 (at_ i)) ∧ W'.cell? ⟨b, off + i.1 * 2 + 1, none⟩ = some (.slice (fa i) (fl i) (fc i))) :
    SeqStopsK Fence.wide 3 Try.prog 76 #[.pointer (some ⟨Bs, 0, none⟩)] (encX at_ fa fl fc) (Below n₀) (fun ys => ys = down len 0) (fun pre => ∃ k, k < len ∧ pre = down len k) len w := fun l J Jx W hW _ _ hY h0 =>
  back1_in at_ fa fl fc l Bs n₀ sa cap hcap hcap2 J Jx hY W (fun W' h => hBs W' ((hW.mono hn).trans h)) (fun i W' h => hc i W' ((hW.mono hn).trans h)) h0
end
theorem back_any (a : Option Addr) (n c : Nat) (w : World) :
    Calls Try.prog 64 #[.slice a n c] w fun e w' => e = .returned (.func (.func 76) #[] #[.pointer (some ⟨w.heap.size, 0, none⟩)]) ∧ w' = w.alloc (.cells #[.slice a n c] 23) := by
  go_enter Try.func64, Try.ntmps64
  go_wp2
  go_ret
  exact ⟨rfl, rfl⟩
end Go.Proofs.Ytcembocnkndlhaa
