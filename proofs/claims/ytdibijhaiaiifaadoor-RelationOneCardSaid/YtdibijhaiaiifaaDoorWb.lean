/- The walk of the iterator over the maximal spans, and the rule for a loop over a method value. -/
import Derived.Test.YtdibijhaiaiifaaDoorWa
import Derived.RangeFuncNested
import Derived.RangeFuncBound
import Derived.RangeFuncCalls
import Derived.RangeFuncLeaves
import Derived.RangeFuncBox
import Derived.Shelf.Abstract
import Derived.Shelf.RegionOpen
import Derived.OwnWalkIn
import Derived.TacticsInMore
import Derived.LoopNIn
import Derived.LoopIn
import Derived.Maps.AppendAt
namespace Go.Proofs.YtdibijhaiaiifaaDoor
open Go.RowKit Go.Shelf
attribute [local go_sem] Oper.semAt_some
theorem xor_top (y : Nat) (hy : y < 18446744073709551616) : bits .xor .u64 IntKind.u64.max (y : Int) = ((notW y : Nat) : Int) := by
  rw [show IntKind.u64.max = ((18446744073709551615 : Nat) : Int) from rfl, u64_xor_nat _ _ (by omega) hy]
  congr 1
  apply Nat.eq_of_testBit_eq
  intro k
  rw [Nat.testBit_xor]
  have ht := top_bit k
  unfold top64 at ht
  rw [ht]
  by_cases hk : k < 64
  · rw [notW_bit _ _ hy hk]; simp [hk]
  · rw [Nat.testBit_lt_two_pow (Nat.lt_of_lt_of_le (notW_lt y) (Nat.pow_le_pow_right (n := 2) (by omega) (show 64 ≤ k by omega))), Nat.testBit_lt_two_pow (Nat.lt_of_lt_of_le hy (Nat.pow_le_pow_right (n := 2) (by omega) (show 64 ≤ k by omega)))]
    simp [hk]
theorem castDiv (x m : Nat) : ((x : Int) / 2 ^ m) = ((x / 2 ^ m : Nat) : Int) := by
  rw [Int.natCast_ediv, Int.natCast_pow]; rfl
theorem tz_int (y c : Nat) (z : Int) (h : z = y) (hc : Lib.ctz 64 y = c) (hy : y < 18446744073709551616) (w : World) (hT : Tab w) :
    Calls Tryd.prog 145 #[.int .u64 z] w fun e w' => e = .returned (.int .i64 c) ∧ w = w' := by
  subst h; subst hc; exact tz_any y hy w hT
set_option maxRecDepth 100000 in
set_option maxHeartbeats 1000000 in
theorem spans_in (l x : Nat) (hx : x < 18446744073709551616) (J : List Sp → World → Prop) (hT : ∀ pre W, J pre W → Tab W)
    (hY : ∀ pre (s : Sp) W, J pre W → pre.length < 32 → YieldAt Fence.wide 2 Tryd.prog l #[.agg #[.int .i64 s.1, .int .i64 s.2]] W fun e W' => e = .returned (.bool true) ∧ J (pre ++ [s]) W')
    (W : World) (h0 : J [] W) :
    CallsIn Fence.wide 3 Tryd.prog 132 #[.int .u64 x, .func (.yield l) #[] #[]] W fun e W' => (∃ v, e = .returned v) ∧ J (canon (bitsOf x)) W' := by
  refine callsIn_of_wp Tryd.func132 rfl trivial ?_ rfl
  simp only [Tryd.ntmps132, List.size_toArray, List.length_cons, List.length_nil, Nat.reduceAdd, Nat.reduceSub, Array.replicate_succ, Array.replicate_zero, List.push_toArray, List.append_toArray, List.nil_append, List.cons_append]
  gi_wp2
  gi_loopw [4, 5] (fun a t wr => ∃ (m : Nat) (pre : List Sp), m < 64 ∧ a = .int .i64 m ∧ canon (bitsOf x) = pre ++ rest (bitsOf x) m ∧ J pre wr) (fun a _ _ => 64 - (intOf a).toNat)
  case atStart => exact ⟨0, [], by omega, rfl, rfl, h0⟩
  case round =>
    obtain ⟨m, pre, hm, rfl, hc, hJ⟩ := hrel
    have HC := Lib.hid hc
    clear hc
    by_cases hz : x / 2 ^ m = 0
    · have ht : (((x : Int) / 2 ^ m) != 0) = false := by rw [castDiv, hz]; rfl
      gi_wp2
      go_end0
      refine ⟨⟨_, rfl⟩, ?_⟩
      rw [HC.out, rest_none _ _ (by omega) hz, List.append_nil]; exact hJ
    · have ht : (((x : Int) / 2 ^ m) != 0) = true := by rw [castDiv, bne_iff_ne]; omega
      have hT' := Lib.hid (hT _ _ hJ)
      obtain ⟨r1, r2, r3, r4, r5, r6⟩ := rest_some x m hx (by omega) hz
      have E1 := Lib.hid (castDiv x m)
      obtain ⟨c, hc⟩ : ∃ c, Lib.ctz 64 (x / 2 ^ m) = c := ⟨_, rfl⟩
      have ea : begOf x m = m + c := by unfold begOf; rw [hc]
      rw [ea] at r1 r2 r3 r5 r6
      obtain ⟨d, hd⟩ : ∃ d, Lib.ctz 64 (notW (x / 2 ^ (m + c))) = d := ⟨_, rfl⟩
      have et : tillOf x (m + c) = m + c + d := by unfold tillOf; rw [hd]
      rw [et] at r2 r3 r6
      rw [hc] at r4
      rw [hd] at r5
      have HC1 := Lib.hid hc
      have HD := Lib.hid hd
      have R6 := Lib.hid r6
      clear hc hd r6 ea et hz
      gi_wp2_with fail
      refine ⟨trivial, ?_⟩
      refine (callsIn_wide.2 (tz_int (x / 2 ^ m) c _ E1.out HC1.out (div_lt _ _ hx) _ hT'.out)).mono ?_
      rintro e w' ⟨rfl, rfl⟩
      gi_wp2_with fail
      refine ⟨trivial, ?_⟩
      refine (callsIn_wide.2 (tz_int (notW (x / 2 ^ (m + c))) d _ (by rw [castDiv, xor_top _ (div_lt _ _ hx)]) HD.out (notW_lt _) _ hT'.out)).mono ?_
      rintro e w' ⟨rfl, rfl⟩
      have hlen : pre.length < 32 := by
        have := canon_le (bitsOf x)
        rw [HC.out, R6.out] at this
        simp at this; omega
      obtain ⟨fn, tmps, assign, body, hy, hR⟩ := hY pre ((m : Int) + c, (m : Int) + c + d) wr hJ hlen
      dsimp only at hy
      by_cases h64 : m + c + d = 64
      · have h6 : ((m : Int) + c + d == 64) = true := by rw [beq_iff_eq]; omega
        gi_wp2
        refine hR.mono ?_
        rintro e W3 ⟨rfl, hJ3⟩
        gi_wp2
        refine bodyPost_ret (results_none rfl _ _ _) rfl ?_
        refine ⟨⟨_, rfl⟩, ?_⟩
        rw [HC.out, R6.out, h64, rest_nil _ 64 (by omega) (by omega)]
        have e1 : ((m + c : Nat) : Int) = (m : Int) + c := by omega
        have e2 : ((64 : Nat) : Int) = (m : Int) + c + d := by omega
        rw [e1, e2]; exact hJ3
      · have h6 : ((m : Int) + c + d == 64) = false := by rw [beq_eq_false_iff_ne]; omega
        gi_wp2
        refine hR.mono ?_
        rintro e W3 ⟨rfl, hJ3⟩
        gi_wp2
        go_roundw
        case rel =>
          refine ⟨m + c + d, pre ++ [((m : Int) + c, (m : Int) + c + d)], by omega, by go_num, ?_, hJ3⟩
          rw [HC.out, R6.out, List.append_assoc]
          have e1 : ((m + c : Nat) : Int) = (m : Int) + c := by omega
          have e2 : ((m + c + d : Nat) : Int) = (m : Int) + c + d := by omega
          rw [e1, e2]; rfl
        case measure => simp [intOf]; omega
/-- What a round of the loop owes: it falls off its end, having kept what the loop laid, and its own invariant holds. -/
def roundOwes {α : Type} (B : Nat) (I : List α → World → Prop) (xs : List α) (W : World) : Exit → Act → World → Prop
  | .normal, _, W' => KeepsFrom B W W' ∧ I xs W'
  | _, _, _ => False
/-- A range over a function value whose leading arguments are bound (a method value), the body never leaving early; the loop's variable may be boxed anew in each round (Ax). -/
theorem wp_range {α : Type} {P : Program} {g : Operand} {ps : Array Tmp} {assign body : Code} {Q : Exit → Act → World → Prop} {a : Act} {w : World} {f : Nat} {fs lb : Array Value}
    (hg : a.eval g = .func (.func f) fs lb) (eg : ∀ args w, (callFunc f args).run P w = .ok (.enter f args) w) {encs : α → Array Value} (hps : ∀ x, (encs x).size = ps.size)
    (xs : List α) (N : Nat) (I : List α → World → Prop) (hI : OwnFrom w.heap.size I) (h0 : I [] w) (Ax : α → Act → World → Prop) (hAx : OwnFrom w.heap.size (fun (p : α × Act) W => Ax p.1 p.2 W))
    (hassign : ∀ (l : Nat) (pre : List α) (x : α) (W : World) (K : Act → World → Prop), I pre W → (∀ a' W', KeepsFrom w.heap.size W W' → I pre W' → Ax x a' W' → K a' W') →
      assign.wpIn (Fence.wide.inRound l) 2 P (Exit.then K (fun _ _ _ => False)) { tmps := (ps.zip (encs x)).foldl (fun t (p, v) => t.setIfInBounds p v) a.tmps, defers := [] } W)
    (hbody : ∀ (l : Nat) (pre : List α) (x : α) (a' : Act) (W : World), I pre W → Ax x a' W → pre.length < N → body.wpIn (Fence.wide.inRound l) 2 P (roundOwes w.heap.size I (pre ++ [x]) W) a' W)
    (hseq : ∀ (J : List α → World → Prop) (W : World), (∀ pre W, J pre W → I pre W) →
      (∀ pre x W, J pre W → pre.length < N → YieldAt Fence.wide 2 P (w.heap.size + 1) (encs x) W fun e W' => e = .returned (.bool true) ∧ J (pre ++ [x]) W') → J [] W →
      CallsIn Fence.wide 3 P f (fs ++ #[.func (.yield (w.heap.size + 1)) #[] #[]] ++ lb) W fun e W' => (∃ v, e = .returned v) ∧ J xs W')
    (hdone : ∀ (W : World), I xs W → W.heap[w.heap.size]? = some (.deferred (some [])) → Q .normal { a with defers := { target := .collected w.heap.size, args := #[] } :: a.defers } W) :
    (Code.rangeFunc g ps assign body).wpIn Fence.wide 4 P Q a w := by
  refine wpIn_rangeFunc (fun fn hfn => ?_)
  let mk : LoopState → Loop := fun st => { state := st, pending := none, fn, tmps := a.tmps, params := ps, assign, body, defers := w.heap.size }
  let rd : Nat := w.heap.size + 1
  let W1 : World := (w.alloc (.deferred (some []))).alloc (.loop (mk .ready))
  have hloop : W1.heap[rd]? = some (.loop (mk .ready)) := by
    have := World.alloc_heap_new (w.alloc (.deferred (some []))) (.loop (mk .ready)); rwa [World.size_alloc] at this
  have hdef : W1.heap[w.heap.size]? = some (.deferred (some [])) := (Below.heap_alloc _ _ _ (by simp)).trans (World.alloc_heap_new w _)
  have hI1 : I [] W1 := hI.alloc _ (hI.alloc _ h0)
  refine ⟨rd, [{ target := .collected w.heap.size, args := #[] }], W1, { target := .fn (.func f) lb, args := fs ++ #[.func (.yield rd) #[] #[]] }, W1, f, fs ++ #[.func (.yield rd) #[] #[]] ++ lb, W1,
    run_enterLoop_outer _ _ _ _ _, ?_, fun _ _ => trivial, ?_, fun h => ?_, ?_⟩
  · simp only [resolve, hg]; simp [go_sem]
  · simp [invoke, go_sem, eg]
  · omega
  · let J : List α → World → Prop := fun pre W => I pre W ∧ W.heap[rd]? = some (.loop (mk .ready)) ∧ W.heap[w.heap.size]? = some (.deferred (some []))
    refine (hseq J W1 (fun _ _ h => h.1) ?_ ⟨hI1, hloop, hdef⟩).mono ?_
    · rintro pre x W0 ⟨hi0, hl0, hd0⟩ hlen
      have hy := run_yield (P := P) (args := encs x) hl0 (hps x)
      refine ⟨fn, _, assign, body, hy, roundIn_of_wpIn hfn (hassign _ pre x W0 _ hi0 (fun a' W hk0 hi hax => ?_))⟩
      have hl : W.heap[rd]? = some (.loop (mk .ready)) := hk0.same _ _ (by omega) hl0 rfl
      have hd : W.heap[w.heap.size]? = some (.deferred (some [])) := hk0.same _ _ (Nat.le_refl _) hd0 rfl
      have hlt : rd < W.heap.size := (Array.getElem?_eq_some_iff.1 hl).1
      refine ⟨_, run_beginRound hl rfl, ?_⟩
      have b1 : (W.putObj rd (.loop { mk .ready with state := .busy })).heap[rd]? = some (.loop { mk .ready with state := .busy }) := World.putObj_heap_same hlt
      have b2 : (W.putObj rd (.loop { mk .ready with state := .busy })).heap[w.heap.size]? = some (.deferred (some [])) := (World.putObj_heap_other (by omega)).trans hd
      refine wpIn_mono (hbody _ pre x _ _ (hI.putObj _ hi (by omega) hl rfl) (hAx.putObj (s := (x, a')) _ hax (by omega) hl rfl) hlen) ?_
      rintro e a3 W3 hp
      cases e with
      | normal =>
        obtain ⟨hk3, hi3⟩ := hp
        have c1 := hk3.same _ _ (by omega) b1 rfl
        have c2 := hk3.same _ _ (Nat.le_refl _) b2 rfl
        exact ⟨_, _, run_endRound (P := P) none c1, rfl, hI.putObj _ hi3 (by omega) c1 rfl, World.putObj_heap_same (Array.getElem?_eq_some_iff.1 c1).1, (World.putObj_heap_other (by omega)).trans c2⟩
      | _ => exact hp.elim
    · rintro e W2 ⟨⟨v, rfl⟩, hi, hl, hd⟩
      exact ⟨none, _, run_endLoop (P := P) hl (by simp [mk]), hdone _ (hI.putObj _ hi (by omega) hl rfl) ((World.putObj_heap_other (by omega)).trans hd)⟩
end Go.Proofs.YtdibijhaiaiifaaDoor
