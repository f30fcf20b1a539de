/- Parts Wa, Wb, Wc, Wd, We: words, walks and laws that the claims of this seat share. -/
import Derived.Test.YtdibijhaiaiifaaDoorJ1
import Derived.Laws.Bits64b
import Derived.Laws.BitsAllLaws
import Derived.Deep.QuietTactic
import Derived.BigQuiet
import Derived.RangeFuncNested
import Derived.RangeFuncBound
import Derived.RangeFuncCalls
import Derived.RangeFuncLeaves
import Derived.RangeFuncBox
import Derived.Shelf.Abstract
import Derived.Shelf.RegionOpen
import Derived.OwnWalkIn
import Derived.TacticsInMore
import Derived.LoopNIn
import Derived.LoopIn
import Derived.Maps.AppendAt
/- The walks of the leaves: few, below, the library's bit counts, of. -/
namespace Go.Proofs.YtdibijhaiaiifaaDoor
open Go.RowKit
theorem below_any (n : Int) (w : World) :
    Calls Tryd.prog 131 #[.int .i64 n] w fun e w' => e = .returned (.int .u64 (belowN n : Nat)) ∧ w = w' := by
  by_cases h0 : n ≤ 0
  · have H := Lib.hid (show belowN n = 0 from by simp [belowN, h0])
    go_enter Tryd.func131, Tryd.ntmps131
    go_wp2
    go_ret
    exact ⟨by rw [H.out]; rfl, rfl⟩
  · by_cases h1 : 64 ≤ n
    · have H := Lib.hid (show belowN n = top64 from by simp [belowN, h0, h1])
      go_enter Tryd.func131, Tryd.ntmps131
      go_wp2
      go_ret
      exact ⟨by rw [H.out]; rfl, rfl⟩
    · have h2 : 0 < n := by omega
      have H := Lib.hid (show IntKind.u64.wrap (IntKind.u64.wrap (2 ^ n.toNat) - 1) = (belowN n : Nat) from by
        have p : 2 ^ n.toNat ≤ 2 ^ 63 := Nat.pow_le_pow_right (by omega) (by omega)
        have q : (2 : Nat) ^ 63 = 9223372036854775808 := rfl
        have r : 0 < 2 ^ n.toNat := Nat.two_pow_pos _
        have e : ((2 : Int) ^ n.toNat) = ((2 ^ n.toNat : Nat) : Int) := by rw [Int.natCast_pow]; rfl
        simp only [belowN, h0, h1, if_false, IntKind.wrap_u64]
        rw [e]
        generalize 2 ^ n.toNat = y at *
        omega)
      go_enter Tryd.func131, Tryd.ntmps131
      go_wp2
      go_ret
      exact ⟨ret_int H.out, rfl⟩
theorem wrapN (y : Nat) : IntKind.u64.wrap (y : Int) = ((y % 18446744073709551616 : Nat) : Int) := by rw [IntKind.wrap_u64]; omega
theorem ones1 (x : Nat) (hx : x < 18446744073709551616) : IntKind.u64.wrap (bits .and .u64 ((x : Int) / 2) 6148914691236517205 + bits .and .u64 (x : Int) 6148914691236517205) = ((s1 8 x : Nat) : Int) ∧ s1 8 x < 18446744073709551616 := by
  have a : x / 2 &&& 6148914691236517205 ≤ 6148914691236517205 := Nat.and_le_right
  have b : x &&& 6148914691236517205 ≤ 6148914691236517205 := Nat.and_le_right
  have e := bits_and_u64_nat (x / 2) 6148914691236517205 (by omega) (by omega)
  have f := bits_and_u64_nat x 6148914691236517205 hx (by omega)
  rw [show ((x : Int) / 2) = ((x / 2 : Nat) : Int) from by omega]
  rw [show (6148914691236517205 : Int) = ((6148914691236517205 : Nat) : Int) from rfl, e, f, ← Int.natCast_add, wrapN]
  unfold s1; rw [rep85]
  exact ⟨by rw [Nat.mod_eq_of_lt (by omega)], by omega⟩
theorem ones2 (x : Nat) (hx : x < 18446744073709551616) : IntKind.u64.wrap (bits .and .u64 ((x : Int) / 4) 3689348814741910323 + bits .and .u64 (x : Int) 3689348814741910323) = ((s2 8 x : Nat) : Int) ∧ s2 8 x < 18446744073709551616 := by
  have a : x / 4 &&& 3689348814741910323 ≤ 3689348814741910323 := Nat.and_le_right
  have b : x &&& 3689348814741910323 ≤ 3689348814741910323 := Nat.and_le_right
  have e := bits_and_u64_nat (x / 4) 3689348814741910323 (by omega) (by omega)
  have f := bits_and_u64_nat x 3689348814741910323 hx (by omega)
  rw [show ((x : Int) / 4) = ((x / 4 : Nat) : Int) from by omega]
  rw [show (3689348814741910323 : Int) = ((3689348814741910323 : Nat) : Int) from rfl, e, f, ← Int.natCast_add, wrapN]
  unfold s2; rw [rep51]
  exact ⟨by rw [Nat.mod_eq_of_lt (by omega)], by omega⟩
theorem ones3 (x : Nat) : bits .and .u64 (IntKind.u64.wrap ((x : Int) / 16 + (x : Int))) 1085102592571150095 = ((s3 8 x : Nat) : Int) ∧ s3 8 x < 18446744073709551616 := by
  rw [show ((x : Int) / 16) = ((x / 16 : Nat) : Int) from by omega, ← Int.natCast_add, wrapN]
  have f := bits_and_u64_nat ((x / 16 + x) % 18446744073709551616) 1085102592571150095 (by omega) (by omega)
  rw [show (1085102592571150095 : Int) = ((1085102592571150095 : Nat) : Int) from rfl, f]
  have a : (x / 16 + x) &&& 1085102592571150095 ≤ 1085102592571150095 := Nat.and_le_right
  have h1 : ((x / 16 + x) &&& 1085102592571150095) % 2 ^ 64 = ((x / 16 + x) % 2 ^ 64) &&& (1085102592571150095 % 2 ^ 64) := Nat.and_mod_two_pow
  rw [show (2 : Nat) ^ 64 = 18446744073709551616 from rfl, Nat.mod_eq_of_lt (by omega)] at h1
  unfold s3; rw [rep15]
  exact ⟨by rw [h1], by omega⟩
theorem fold1 (y m : Nat) : IntKind.u64.wrap ((y : Int) + (y : Int) / (m : Int)) = (((y + y / m) % 18446744073709551616 : Nat) : Int) := by
  rw [← Int.natCast_ediv, ← Int.natCast_add, wrapN]
theorem ofInt64 (z : Int) : (BitVec.ofInt 64 z).toNat = (z % 18446744073709551616).toNat := by
  rw [BitVec.toNat_ofInt]; rfl
theorem last1 (y : Nat) (h : y < 18446744073709551616) : bits .and .i64 (wrap64 (y : Int)) 127 = ((y % 128 : Nat) : Int) := by
  have e : (BitVec.ofInt 64 (wrap64 (y : Int))).toNat = y := by
    rw [ofInt64]
    unfold wrap64
    omega
  show IntKind.i64.wrap ((BitVec.ofInt 64 (wrap64 (y : Int)) &&& BitVec.ofInt 64 127).toNat : Int) = _
  rw [BitVec.toNat_and, e, show (BitVec.ofInt 64 127).toNat = 127 from rfl, Nat.and_two_pow_sub_one_eq_mod y 7, IntKind.wrap_i64]
  omega
theorem tz_key (x a : Nat) (hx : x < 18446744073709551616) (hx0 : x ≠ 0) (hlow : x &&& (18446744073709551616 - x) = a) :
    IntKind.u64.wrap (bits BinOp.and IntKind.u64 (x : Int) (IntKind.u64.wrap (-(x : Int))) * 285870213051353865) / 288230376151711744 = ((a * 285870213051353865 % 18446744073709551616 / 288230376151711744 : Nat) : Int) := by
  have e1 : IntKind.u64.wrap (-(x : Int)) = ((18446744073709551616 - x : Nat) : Int) := by rw [IntKind.wrap_u64]; omega
  rw [e1, bits_and_u64_nat x _ hx (by omega), hlow, IntKind.wrap_u64]
  omega
set_option maxHeartbeats 1000000 in
theorem tz_core (x k idx : Nat) (w : World) (hx0 : ((x : Int) == 0) = false)
    (key : IntKind.u64.wrap (bits BinOp.and IntKind.u64 (x : Int) (IntKind.u64.wrap (-(x : Int))) * 285870213051353865) / 288230376151711744 = (idx : Int))
    (hi : idx < 64) (hk : k < 64) (hcell : w.cell? ⟨1, idx, none⟩ = some (.int .u8 k)) :
    Calls Tryd.prog 145 #[.int .u64 x] w fun e w' => e = .returned (.int .i64 k) ∧ w = w' := by
  go_enter Tryd.func145, Tryd.ntmps145
  go_wp2_with (simp only [key])
  go_ret
  exact ⟨rfl, rfl⟩
theorem tz_zero (w : World) : Calls Tryd.prog 145 #[.int .u64 0] w fun e w' => e = .returned (.int .i64 64) ∧ w = w' := by
  go_enter Tryd.func145, Tryd.ntmps145
  go_wp2
  go_ret
  exact ⟨rfl, rfl⟩
theorem tz_any (x : Nat) (hx : x < 18446744073709551616) (w : World) (hT : Tab w) :
    Calls Tryd.prog 145 #[.int .u64 x] w fun e w' => e = .returned (.int .i64 (Lib.ctz 64 x)) ∧ w = w' := by
  by_cases hx0 : x = 0
  · subst hx0
    exact tz_zero w
  · obtain ⟨hlow, hk⟩ := Lib.lowest_bit 64 x hx0 hx
    obtain ⟨hi, htab⟩ := Lib.deBruijn64_at _ hk
    have hcell := hT _ hi
    rw [htab] at hcell
    exact tz_core x _ _ w (by simp; omega) (tz_key x _ hx hx0 hlow) hi hk hcell
theorem quiet_left {P : Program} {f : FuncId} {args : Array Value} {w : World} {n : Nat} {v : Value}
    (h : Calls P f args (w.drewN n) fun e w' => e = .returned v ∧ w.drewN n = w') : Calls P f args (w.drewN n) fun e w'' => e = .returned v ∧ ∃ m, w'' = w.drewN m :=
  h.mono fun _ _ ⟨he, hm⟩ => ⟨he, n, hm.symm⟩
theorem below_drewN {B : Nat} {a w : World} (h : Below B a w) (n : Nat) : Below B a (w.drewN n) := ⟨h.os, h.tape, h.output, h.size, h.block⟩
theorem or_step (x : Nat) (hx : x < 18446744073709551616) (p q : Int) : bits .or .u64 (x : Int) (bits .andNot .u64 (belowN q : Nat) (belowN p : Nat)) = ((x ||| spanW (p, q) : Nat) : Int) := by
  rw [u64_andNot_nat _ _ (belowN_lt q) (belowN_lt p), u64_or_nat _ _ hx (and_lt (by omega))]
  rfl
set_option maxHeartbeats 1000000 in
theorem of_any (v : Value) (l : List Sp) (w : World) (h : IsSpans w v l) :
    Calls Tryd.prog 95 #[v] w fun e w' => e = .returned (.int .u64 (ofW l)) ∧ Below w.heap.size w w' := by
  obtain ⟨a, c, rfl, hs, hm⟩ := h
  go_enter Tryd.func95, Tryd.ntmps95
  go_wp2
  go_loopw [3, 8] (fun t i wr => ∃ k : Nat, k ≤ l.length ∧ i = .int .i64 k ∧ t = .int .u64 (ofW (l.take k)) ∧ Below w.heap.size w wr) (fun _ i _ => l.length - (intOf i).toNat)
  case atStart => exact ⟨0, Nat.zero_le _, rfl, rfl, Below.refl _ _⟩
  case round =>
    obtain ⟨k, hk, rfl, rfl, hb⟩ := hrel
    by_cases hlt : k < l.length
    · obtain ⟨b, off, rfl, hcs⟩ := (hs.keep hb).at_ hlt
      obtain ⟨c1, c2⟩ := hcs k hlt
      have HS := Lib.hid (ofW_take l k hlt)
      clear hcs
      generalize l.getD k (0, 0) = s at *
      obtain ⟨p, q⟩ := s
      go_wp2
      go_quiet ((go_at_call 131; exact quiet_left (below_any _ _)))
      go_wp2
      go_roundw
      case rel => exact ⟨k + 1, by omega, by go_num, by rw [or_step _ (ofW_lt _), HS.out], below_drewN (hb.alloc hb.size _) _⟩
      case measure => simp [intOf]; omega
    · have e : k = l.length := by omega
      subst e
      go_wp2
      go_ret
      exact ⟨by simp, hb⟩
end Go.Proofs.YtdibijhaiaiifaaDoor
/- The walk of the iterator over the maximal spans, and the rule for a loop over a method value. -/
namespace Go.Proofs.YtdibijhaiaiifaaDoor
open Go.RowKit Go.Shelf
attribute [local go_sem] Oper.semAt_some
theorem xor_top (y : Nat) (hy : y < 18446744073709551616) : bits .xor .u64 IntKind.u64.max (y : Int) = ((notW y : Nat) : Int) := by
  rw [show IntKind.u64.max = ((18446744073709551615 : Nat) : Int) from rfl, u64_xor_nat _ _ (by omega) hy]
  congr 1
  apply Nat.eq_of_testBit_eq
  intro k
  rw [Nat.testBit_xor]
  have ht := top_bit k
  unfold top64 at ht
  rw [ht]
  by_cases hk : k < 64
  · rw [notW_bit _ _ hy hk]; simp [hk]
  · rw [Nat.testBit_lt_two_pow (Nat.lt_of_lt_of_le (notW_lt y) (Nat.pow_le_pow_right (n := 2) (by omega) (show 64 ≤ k by omega))), Nat.testBit_lt_two_pow (Nat.lt_of_lt_of_le hy (Nat.pow_le_pow_right (n := 2) (by omega) (show 64 ≤ k by omega)))]
    simp [hk]
theorem castDiv (x m : Nat) : ((x : Int) / 2 ^ m) = ((x / 2 ^ m : Nat) : Int) := by
  rw [Int.natCast_ediv, Int.natCast_pow]; rfl
theorem tz_int (y c : Nat) (z : Int) (h : z = y) (hc : Lib.ctz 64 y = c) (hy : y < 18446744073709551616) (w : World) (hT : Tab w) :
    Calls Tryd.prog 145 #[.int .u64 z] w fun e w' => e = .returned (.int .i64 c) ∧ w = w' := by
  subst h; subst hc; exact tz_any y hy w hT
set_option maxRecDepth 100000 in
set_option maxHeartbeats 1000000 in
theorem spans_in (l x : Nat) (hx : x < 18446744073709551616) (J : List Sp → World → Prop) (hT : ∀ pre W, J pre W → Tab W)
    (hY : ∀ pre (s : Sp) W, J pre W → pre.length < 32 → YieldAt Fence.wide 2 Tryd.prog l #[.agg #[.int .i64 s.1, .int .i64 s.2]] W fun e W' => e = .returned (.bool true) ∧ J (pre ++ [s]) W')
    (W : World) (h0 : J [] W) :
    CallsIn Fence.wide 3 Tryd.prog 132 #[.int .u64 x, .func (.yield l) #[] #[]] W fun e W' => (∃ v, e = .returned v) ∧ J (canon (bitsOf x)) W' := by
  refine callsIn_of_wp Tryd.func132 rfl trivial ?_ rfl
  simp only [Tryd.ntmps132, List.size_toArray, List.length_cons, List.length_nil, Nat.reduceAdd, Nat.reduceSub, Array.replicate_succ, Array.replicate_zero, List.push_toArray, List.append_toArray, List.nil_append, List.cons_append]
  gi_wp2
  gi_loopw [4, 5] (fun a t wr => ∃ (m : Nat) (pre : List Sp), m < 64 ∧ a = .int .i64 m ∧ canon (bitsOf x) = pre ++ rest (bitsOf x) m ∧ J pre wr) (fun a _ _ => 64 - (intOf a).toNat)
  case atStart => exact ⟨0, [], by omega, rfl, rfl, h0⟩
  case round =>
    obtain ⟨m, pre, hm, rfl, hc, hJ⟩ := hrel
    have HC := Lib.hid hc
    clear hc
    by_cases hz : x / 2 ^ m = 0
    · have ht : (((x : Int) / 2 ^ m) != 0) = false := by rw [castDiv, hz]; rfl
      gi_wp2
      go_end0
      refine ⟨⟨_, rfl⟩, ?_⟩
      rw [HC.out, rest_none _ _ (by omega) hz, List.append_nil]; exact hJ
    · have ht : (((x : Int) / 2 ^ m) != 0) = true := by rw [castDiv, bne_iff_ne]; omega
      have hT' := Lib.hid (hT _ _ hJ)
      obtain ⟨r1, r2, r3, r4, r5, r6⟩ := rest_some x m hx (by omega) hz
      have E1 := Lib.hid (castDiv x m)
      obtain ⟨c, hc⟩ : ∃ c, Lib.ctz 64 (x / 2 ^ m) = c := ⟨_, rfl⟩
      have ea : begOf x m = m + c := by unfold begOf; rw [hc]
      rw [ea] at r1 r2 r3 r5 r6
      obtain ⟨d, hd⟩ : ∃ d, Lib.ctz 64 (notW (x / 2 ^ (m + c))) = d := ⟨_, rfl⟩
      have et : tillOf x (m + c) = m + c + d := by unfold tillOf; rw [hd]
      rw [et] at r2 r3 r6
      rw [hc] at r4
      rw [hd] at r5
      have HC1 := Lib.hid hc
      have HD := Lib.hid hd
      have R6 := Lib.hid r6
      clear hc hd r6 ea et hz
      gi_wp2_with fail
      refine ⟨trivial, ?_⟩
      refine (callsIn_wide.2 (tz_int (x / 2 ^ m) c _ E1.out HC1.out (div_lt _ _ hx) _ hT'.out)).mono ?_
      rintro e w' ⟨rfl, rfl⟩
      gi_wp2_with fail
      refine ⟨trivial, ?_⟩
      refine (callsIn_wide.2 (tz_int (notW (x / 2 ^ (m + c))) d _ (by rw [castDiv, xor_top _ (div_lt _ _ hx)]) HD.out (notW_lt _) _ hT'.out)).mono ?_
      rintro e w' ⟨rfl, rfl⟩
      have hlen : pre.length < 32 := by
        have := canon_le (bitsOf x)
        rw [HC.out, R6.out] at this
        simp at this; omega
      obtain ⟨fn, tmps, assign, body, hy, hR⟩ := hY pre ((m : Int) + c, (m : Int) + c + d) wr hJ hlen
      dsimp only at hy
      by_cases h64 : m + c + d = 64
      · have h6 : ((m : Int) + c + d == 64) = true := by rw [beq_iff_eq]; omega
        gi_wp2
        refine hR.mono ?_
        rintro e W3 ⟨rfl, hJ3⟩
        gi_wp2
        refine bodyPost_ret (results_none rfl _ _ _) rfl ?_
        refine ⟨⟨_, rfl⟩, ?_⟩
        rw [HC.out, R6.out, h64, rest_nil _ 64 (by omega) (by omega)]
        have e1 : ((m + c : Nat) : Int) = (m : Int) + c := by omega
        have e2 : ((64 : Nat) : Int) = (m : Int) + c + d := by omega
        rw [e1, e2]; exact hJ3
      · have h6 : ((m : Int) + c + d == 64) = false := by rw [beq_eq_false_iff_ne]; omega
        gi_wp2
        refine hR.mono ?_
        rintro e W3 ⟨rfl, hJ3⟩
        gi_wp2
        go_roundw
        case rel =>
          refine ⟨m + c + d, pre ++ [((m : Int) + c, (m : Int) + c + d)], by omega, by go_num, ?_, hJ3⟩
          rw [HC.out, R6.out, List.append_assoc]
          have e1 : ((m + c : Nat) : Int) = (m : Int) + c := by omega
          have e2 : ((m + c + d : Nat) : Int) = (m : Int) + c + d := by omega
          rw [e1, e2]; rfl
        case measure => simp [intOf]; omega
/-- What a round of the loop owes: it falls off its end, having kept what the loop laid, and its own invariant holds. -/
def roundOwes {α : Type} (B : Nat) (I : List α → World → Prop) (xs : List α) (W : World) : Exit → Act → World → Prop
  | .normal, _, W' => KeepsFrom B W W' ∧ I xs W'
  | _, _, _ => False
/-- A range over a function value whose leading arguments are bound (a method value), the body never leaving early; the loop's variable may be boxed anew in each round (Ax). -/
theorem wp_range {α : Type} {P : Program} {g : Operand} {ps : Array Tmp} {assign body : Code} {Q : Exit → Act → World → Prop} {a : Act} {w : World} {f : Nat} {fs lb : Array Value}
    (hg : a.eval g = .func (.func f) fs lb) (eg : ∀ args w, (callFunc f args).run P w = .ok (.enter f args) w) {encs : α → Array Value} (hps : ∀ x, (encs x).size = ps.size)
    (xs : List α) (N : Nat) (I : List α → World → Prop) (hI : OwnFrom w.heap.size I) (h0 : I [] w) (Ax : α → Act → World → Prop) (hAx : OwnFrom w.heap.size (fun (p : α × Act) W => Ax p.1 p.2 W))
    (hassign : ∀ (l : Nat) (pre : List α) (x : α) (W : World) (K : Act → World → Prop), I pre W → (∀ a' W', KeepsFrom w.heap.size W W' → I pre W' → Ax x a' W' → K a' W') →
      assign.wpIn (Fence.wide.inRound l) 2 P (Exit.then K (fun _ _ _ => False)) { tmps := (ps.zip (encs x)).foldl (fun t (p, v) => t.setIfInBounds p v) a.tmps, defers := [] } W)
    (hbody : ∀ (l : Nat) (pre : List α) (x : α) (a' : Act) (W : World), I pre W → Ax x a' W → pre.length < N → body.wpIn (Fence.wide.inRound l) 2 P (roundOwes w.heap.size I (pre ++ [x]) W) a' W)
    (hseq : ∀ (J : List α → World → Prop) (W : World), (∀ pre W, J pre W → I pre W) →
      (∀ pre x W, J pre W → pre.length < N → YieldAt Fence.wide 2 P (w.heap.size + 1) (encs x) W fun e W' => e = .returned (.bool true) ∧ J (pre ++ [x]) W') → J [] W →
      CallsIn Fence.wide 3 P f (fs ++ #[.func (.yield (w.heap.size + 1)) #[] #[]] ++ lb) W fun e W' => (∃ v, e = .returned v) ∧ J xs W')
    (hdone : ∀ (W : World), I xs W → W.heap[w.heap.size]? = some (.deferred (some [])) → Q .normal { a with defers := { target := .collected w.heap.size, args := #[] } :: a.defers } W) :
    (Code.rangeFunc g ps assign body).wpIn Fence.wide 4 P Q a w := by
  refine wpIn_rangeFunc (fun fn hfn => ?_)
  let mk : LoopState → Loop := fun st => { state := st, pending := none, fn, tmps := a.tmps, params := ps, assign, body, defers := w.heap.size }
  let rd : Nat := w.heap.size + 1
  let W1 : World := (w.alloc (.deferred (some []))).alloc (.loop (mk .ready))
  have hloop : W1.heap[rd]? = some (.loop (mk .ready)) := by
    have := World.alloc_heap_new (w.alloc (.deferred (some []))) (.loop (mk .ready)); rwa [World.size_alloc] at this
  have hdef : W1.heap[w.heap.size]? = some (.deferred (some [])) := (Below.heap_alloc _ _ _ (by simp)).trans (World.alloc_heap_new w _)
  have hI1 : I [] W1 := hI.alloc _ (hI.alloc _ h0)
  refine ⟨rd, [{ target := .collected w.heap.size, args := #[] }], W1, { target := .fn (.func f) lb, args := fs ++ #[.func (.yield rd) #[] #[]] }, W1, f, fs ++ #[.func (.yield rd) #[] #[]] ++ lb, W1,
    run_enterLoop_outer _ _ _ _ _, ?_, fun _ _ => trivial, ?_, fun h => ?_, ?_⟩
  · simp only [resolve, hg]; simp [go_sem]
  · simp [invoke, go_sem, eg]
  · omega
  · let J : List α → World → Prop := fun pre W => I pre W ∧ W.heap[rd]? = some (.loop (mk .ready)) ∧ W.heap[w.heap.size]? = some (.deferred (some []))
    refine (hseq J W1 (fun _ _ h => h.1) ?_ ⟨hI1, hloop, hdef⟩).mono ?_
    · rintro pre x W0 ⟨hi0, hl0, hd0⟩ hlen
      have hy := run_yield (P := P) (args := encs x) hl0 (hps x)
      refine ⟨fn, _, assign, body, hy, roundIn_of_wpIn hfn (hassign _ pre x W0 _ hi0 (fun a' W hk0 hi hax => ?_))⟩
      have hl : W.heap[rd]? = some (.loop (mk .ready)) := hk0.same _ _ (by omega) hl0 rfl
      have hd : W.heap[w.heap.size]? = some (.deferred (some [])) := hk0.same _ _ (Nat.le_refl _) hd0 rfl
      have hlt : rd < W.heap.size := (Array.getElem?_eq_some_iff.1 hl).1
      refine ⟨_, run_beginRound hl rfl, ?_⟩
      have b1 : (W.putObj rd (.loop { mk .ready with state := .busy })).heap[rd]? = some (.loop { mk .ready with state := .busy }) := World.putObj_heap_same hlt
      have b2 : (W.putObj rd (.loop { mk .ready with state := .busy })).heap[w.heap.size]? = some (.deferred (some [])) := (World.putObj_heap_other (by omega)).trans hd
      refine wpIn_mono (hbody _ pre x _ _ (hI.putObj _ hi (by omega) hl rfl) (hAx.putObj (s := (x, a')) _ hax (by omega) hl rfl) hlen) ?_
      rintro e a3 W3 hp
      cases e with
      | normal =>
        obtain ⟨hk3, hi3⟩ := hp
        have c1 := hk3.same _ _ (by omega) b1 rfl
        have c2 := hk3.same _ _ (Nat.le_refl _) b2 rfl
        exact ⟨_, _, run_endRound (P := P) none c1, rfl, hI.putObj _ hi3 (by omega) c1 rfl, World.putObj_heap_same (Array.getElem?_eq_some_iff.1 c1).1, (World.putObj_heap_other (by omega)).trans c2⟩
      | _ => exact hp.elim
    · rintro e W2 ⟨⟨v, rfl⟩, hi, hl, hd⟩
      exact ⟨none, _, run_endLoop (P := P) hl (by simp [mk]), hdone _ (hI.putObj _ hi (by omega) hl rfl) ((World.putObj_heap_other (by omega)).trans hd)⟩
end Go.Proofs.YtdibijhaiaiifaaDoor
/- The walk of list: a word's canonical list of spans. -/
namespace Go.Proofs.YtdibijhaiaiifaaDoor
open Go.RowKit Go.Shelf
attribute [local go_sem] Oper.semAt_some
def flat (l : List Sp) : List Value := l.flatMap fun s => [.int .i64 s.1, .int .i64 s.2]
theorem flat_length (l : List Sp) : (flat l).length = l.length * 2 := by
  induction l with
  | nil => rfl
  | cons s l ih => simp only [flat, List.flatMap_cons, List.length_append, List.length_cons, List.length_nil] at *; omega
theorem flat_append (a b : List Sp) : flat (a ++ b) = flat a ++ flat b := by simp [flat]
theorem flat_get (l : List Sp) : ∀ i, i < l.length → (flat l)[i * 2]? = some (.int .i64 (l.getD i (0, 0)).1) ∧ (flat l)[i * 2 + 1]? = some (.int .i64 (l.getD i (0, 0)).2) := by
  induction l with
  | nil => intro i h; simp at h
  | cons s l ih =>
    intro i hi
    have e : flat (s :: l) = .int .i64 s.1 :: .int .i64 s.2 :: flat l := rfl
    rw [e]
    cases i with
    | zero => simp
    | succ i =>
      have := ih i (by simpa using hi)
      rw [show (i + 1) * 2 = i * 2 + 2 from by omega]
      simpa using this
theorem IsSpans.of_owns {W : World} {base : Nat} {v : Value} {l : List Sp} (h : W.ownsRow base 86 2 v l.length (flat l)) (hl : l.length ≤ 9223372036854775807) : IsSpans W v l := by
  obtain ⟨_, h2⟩ := h
  rcases h2 with ⟨rfl, h0⟩ | ⟨g, cap, cur, rfl, _, hg, hn, hcm, hsz, htake⟩
  · have : l = [] := List.eq_nil_of_length_eq_zero h0
    subst this
    exact ⟨none, 0, rfl, .inl rfl, by simp, by simp, by simp⟩
  · refine ⟨_, cap, rfl, .inr ⟨g, 0, rfl, fun i hi => ?_⟩, hl, hn, by unfold maxLen at hcm; omega⟩
    obtain ⟨f1, f2⟩ := flat_get l i hi
    have key : ∀ j u, j < l.length * 2 → (flat l)[j]? = some u → W.cell? ⟨g, 0 + j, none⟩ = some u := by
      intro j u hj hu
      rw [← htake, List.getElem?_take, if_pos hj] at hu
      rw [Nat.zero_add]
      unfold World.cell?
      rw [hg]
      simpa using hu
    exact ⟨key _ _ (by omega) f1, key _ _ (by omega) f2⟩
theorem Tryd.info86 : (Tryd.prog.info? 86).map (fun i => (i.zero, i.size, i.bytes)) = some (some (.agg #[.int .i64 0, .int .i64 0]), 2, 16) := by kernel_rfl
theorem cells_two_new (w : World) (x y : Value) (t : TypeId) : ∀ j u, [x, y][j]? = some u → (w.alloc (.cells #[x, y] t)).cell? ((⟨w.heap.size, 0, none⟩ : Addr).add j) = some u := by
  intro j u hj
  have e : (w.alloc (.cells #[x, y] t)).heap[w.heap.size]? = some (.cells #[x, y] t) := World.alloc_heap_new w _
  match j, hj with
  | 0, hj => simp at hj; subst hj; exact cell_of_row _ w.heap.size 0 #[x, y] t (0, 0) e
  | 1, hj => simp at hj; subst hj; exact cell_of_row _ w.heap.size 1 #[x, y] t (0, 0) e
set_option maxRecDepth 100000 in
set_option maxHeartbeats 2000000 in
theorem list_in (x : Nat) (hx : x < 18446744073709551616) (w : World) (hT : Tab w) :
    CallsIn Fence.wide 4 Tryd.prog 98 #[.int .u64 x] w fun e w' => ∃ v, e = .returned v ∧ IsSpansF w' w.heap.size v (canon (bitsOf x)) ∧ Below w.heap.size w w' := by
  obtain ⟨i0, hi, hz0, hz1, hz2⟩ := info_parts Tryd.info86
  refine callsIn_of_wp_marks Tryd.func98 rfl trivial ?_ rfl
  simp only [Tryd.ntmps98, List.size_toArray, List.length_cons, List.length_nil, Nat.reduceAdd, Nat.reduceSub, Array.replicate_succ, Array.replicate_zero, List.push_toArray, List.append_toArray, List.nil_append, List.cons_append]
  gi_wp2
  have bO := Boxed.new w 26 (.slice none 0 0)
  have hB0 : Below w.heap.size w (w.alloc (.cells #[.slice none 0 0] 26)) := (Below.refl _ w).alloc (Nat.le_refl _) _
  refine wp_range (f := 132) (fs := #[.int .u64 x]) (lb := #[]) rfl (enters_of Tryd.func132 (by kernel_rfl) rfl) (encs := fun s : Sp => #[.agg #[.int .i64 s.1, .int .i64 s.2]]) (fun _ => rfl) (canon (bitsOf x)) 32
    (fun pre W => (∃ v, Boxed W w.heap.size 26 v ∧ W.ownsRow w.heap.size 86 2 v pre.length (flat pre) ∧ True) ∧ Below w.heap.size w W)
    (OwnFrom.and (Own.from (holdsRow_own w.heap.size w.heap.size 26 86 2 (fun pre => pre.length) flat (fun _ _ => True)) _) (ownFrom_below (Nat.le_refl _) (by simp)))
    ⟨⟨_, bO, World.ownsRow_nil _ _ _ _, trivial⟩, hB0⟩
    (fun s a' W => ∃ b, w.heap.size < b ∧ W.cell? ⟨b, 0, none⟩ = some (.int .i64 s.1) ∧ W.cell? ⟨b, 1, none⟩ = some (.int .i64 s.2) ∧
      a' = { tmps := #[.int .u64 x, undef, .slice none 0 0, .pointer (some ⟨w.heap.size, 0, none⟩), .pointer (some ⟨b, 0, none⟩), .int .u64 x, .func (.func 132) #[.int .u64 x] #[], .agg #[.int .i64 s.1, .int .i64 s.2], undef, undef, undef, undef, undef], defers := [] })
    (Own.from (fun s A B row hs hg hr => by obtain ⟨b, h1, h2, h3, h4⟩ := hs; exact ⟨b, h1, cell_kept h2 hg hr, cell_kept h3 hg hr, h4⟩) _) ?assign ?body ?seq ?done
  case assign =>
    rintro l pre ⟨p, q⟩ W K ⟨⟨v, hv, hrow, -⟩, hB⟩ hK
    gi_wp2
    have e : (W.alloc (.cells #[.int .i64 p, .int .i64 q] 86)).heap[W.heap.size]? = some (.cells #[.int .i64 p, .int .i64 q] 86) := World.alloc_heap_new W _
    exact hK _ _ ((KeepsOthers.alloc _ _).from _) ⟨⟨v, hv.alloc _, hrow.alloc _, trivial⟩, hB.alloc hB.size _⟩ ⟨W.heap.size, hv.lt, cell_of_row _ W.heap.size 0 _ 86 (0, 0) e, cell_of_row _ W.heap.size 1 _ 86 (0, 0) e, rfl⟩
  case body =>
    rintro l pre ⟨p, q⟩ a' W ⟨⟨v, hv, hrow, -⟩, hB⟩ ⟨b, hb, c1, c2, rfl⟩ hlt
    have hc := hv.cell
    dsimp only at c1 c2
    gi_wp2_with (gi_at_builtin; refine wpListIn_append_own _ rfl _ _ 26 rfl w.heap.size 86 i0 (.agg #[.int .i64 0, .int .i64 0]) 2 16 Tryd.underlying26 hi hz0 hz1 hz2 rfl (by decide) _ _ _ rfl (hrow.alloc _) ⟨W.heap.size, 0, none⟩ 1 1 [.int .i64 p, .int .i64 q] rfl rfl (cells_two_new _ _ _ _) (by simp [Value.oneCell']) (by unfold maxLen; omega) (by omega) (by have := hB.size; simp; omega) ?_; intro v' w1 hown' hgrow _; obtain ⟨g', cap', rfl⟩ := ownsRow_succ hown'; obtain ⟨hv1, hv2, hr2, hk2, hb2⟩ := hv.appended (by decide) hrow hB.size (Nat.le_refl _) hown' hgrow; have hc1 := hv1.cell; have hf1 := hv1.frozen)
    exact ⟨hk2.from _, ⟨_, hv2, by simpa [flat_append, flat] using hr2⟩, hB.trans hb2⟩
  case seq =>
    intro J W hJI hY h0
    exact spans_in _ x hx J (fun pre W h => hT.keep (hJI pre W h).2) hY W h0
  case done =>
    rintro W ⟨⟨v, hv, hrow, -⟩, hB⟩ hK
    have hc := hv.cell
    have hlen := canon_le (bitsOf x)
    gi_wp2
    refine ⟨by simp, .inl ⟨_, _, rfl, run_takeDeferred hK, ?_⟩⟩
    exact ⟨_, results_tmp rfl _ _ _, v, rfl, ⟨.of_owns (ownsRow_putObj hrow _ hK rfl) (by omega), fun b hb => (hrow.lt b hb).1⟩, hB.trans (belowK_b (w := w) (Nat.le_refl _) W _ _ _ (by simp) hK rfl rfl)⟩
theorem list_any (x : Nat) (hx : x < 18446744073709551616) (w : World) (hT : Tab w) :
    Calls Tryd.prog 98 #[.int .u64 x] w fun e w' => ∃ v, e = .returned v ∧ IsSpansF w' w.heap.size v (canon (bitsOf x)) ∧ Below w.heap.size w w' := callsIn_wide.1 (list_in x hx w hT)
end Go.Proofs.YtdibijhaiaiifaaDoor
/- The walks of package interval's exported functions that return lists, numbers and Has. -/
namespace Go.Proofs.YtdibijhaiaiifaaDoor
open Go.RowKit
def andTo (x y : Nat) : Nat → Nat
  | 0 => top64
  | 1 => top64 &&& x
  | _ => (top64 &&& x) &&& y
theorem top_and (x : Nat) (hx : x < 18446744073709551616) : top64 &&& x = x := by
  rw [Nat.and_comm, show top64 = 2 ^ 64 - 1 from rfl, Nat.and_two_pow_sub_one_eq_mod]
  exact Nat.mod_eq_of_lt hx
theorem andTo_two (x y : Nat) (hx : x < 18446744073709551616) : andTo x y 2 = x &&& y := by
  show (top64 &&& x) &&& y = _
  rw [top_and x hx]
theorem andTo_one (x y : Nat) : andTo x y 0 &&& x = andTo x y 1 := by simp only [andTo]
theorem andTo_two' (x y : Nat) : andTo x y 1 &&& y = andTo x y 2 := by simp only [andTo]
theorem andTo_lt (x y : Nat) (hx : x < 18446744073709551616) : andTo x y 0 < 18446744073709551616 ∧ andTo x y 1 < 18446744073709551616 := by
  refine ⟨?_, ?_⟩
  · show top64 < _
    unfold top64; omega
  · show top64 &&& x < _
    exact and_lt hx
theorem andTo_zero (x y : Nat) : (18446744073709551615 : Int) = ((andTo x y 0 : Nat) : Int) := by
  show _ = ((top64 : Nat) : Int)
  unfold top64; omega
theorem all_any (x y b : Nat) (hx : x < 18446744073709551616) (hy : y < 18446744073709551616) (w : World) (c0 : w.cell? ⟨b, 0, none⟩ = some (.int .u64 x)) (c1 : w.cell? ⟨b, 1, none⟩ = some (.int .u64 y)) :
    Calls Tryd.prog 97 #[.slice (some ⟨b, 0, none⟩) 2 2] w fun e w' => e = .returned (.int .u64 (x &&& y : Nat)) ∧ w = w' := by
  have E0 := Lib.hid (andTo_zero x y)
  have E1 := Lib.hid (show bits .and .u64 ((andTo x y 0 : Nat) : Int) (x : Int) = ((andTo x y 1 : Nat) : Int) from by rw [u64_and_nat _ _ (andTo_lt x y hx).1 hx, andTo_one])
  have E2 := Lib.hid (show bits .and .u64 ((andTo x y 1 : Nat) : Int) (y : Int) = ((andTo x y 2 : Nat) : Int) from by rw [u64_and_nat _ _ (andTo_lt x y hx).2 hy, andTo_two'])
  have E3 := Lib.hid (andTo_two x y hx)
  go_enter Tryd.func97, Tryd.ntmps97
  go_wp2
  go_loop [3, 5, 8] (fun t _ i => ∃ k : Nat, k ≤ 2 ∧ i = .int .i64 k ∧ t = .int .u64 (andTo x y k)) (fun _ _ i => 2 - (intOf i).toNat)
  case atStart => exact ⟨0, by omega, rfl, congrArg (Value.int .u64) E0.out⟩
  case round =>
    obtain ⟨k, hk, rfl, rfl⟩ := hrel
    rcases (show k = 0 ∨ k = 1 ∨ k = 2 from by omega) with rfl | rfl | rfl
    · go_wp2
      go_round
      case rel => exact ⟨1, by omega, rfl, congrArg (Value.int .u64) E1.out⟩
      case measure => simp [intOf]
    · go_wp2
      go_round
      case rel => exact ⟨2, by omega, rfl, congrArg (Value.int .u64) E2.out⟩
      case measure => simp [intOf]
    · go_wp2
      go_ret
      exact ⟨ret_int (by rw [E3.out]), rfl⟩
theorem cell2 (w : World) (x y : Value) (t : TypeId) : (w.alloc (.cells #[x, y] t)).cell? ⟨w.heap.size, 0, none⟩ = some x ∧ (w.alloc (.cells #[x, y] t)).cell? ⟨w.heap.size, 1, none⟩ = some y := by
  have e : (w.alloc (.cells #[x, y] t)).heap[w.heap.size]? = some (.cells #[x, y] t) := World.alloc_heap_new w _
  exact ⟨cell_of_row _ w.heap.size 0 #[x, y] t (0, 0) e, cell_of_row _ w.heap.size 1 #[x, y] t (0, 0) e⟩
theorem list_int (z : Int) (x : Nat) (h : z = x) (hx : x < 18446744073709551616) (S : Nat → Bool) (hS : ∀ k, k < 64 → x.testBit k = S k) (w : World) (hT : Tab w) :
    Calls Tryd.prog 98 #[.int .u64 z] w fun e w' => ∃ v, e = .returned v ∧ IsSpansF w' w.heap.size v (canon S) ∧ Below w.heap.size w w' := by
  subst h
  rw [← canon_ext (S := bitsOf x) hS]
  exact list_any x hx w hT
theorem Of_any (v : Value) (l : List Sp) (w : World) (hT : Tab w) (h : IsSpans w v l) :
    Calls Tryd.prog 78 #[v] w fun e w' => ∃ u, e = .returned u ∧ IsSpansF w' w.heap.size u (canon (setOf l)) ∧ Below w.heap.size w w' := by
  go_enter Tryd.func78, Tryd.ntmps78
  go_wp2_with fail
  refine (of_any v l _ h).mono ?_
  rintro e w1 ⟨rfl, hb1⟩
  go_wp2_with fail
  refine (list_int _ _ rfl (ofW_lt l) (setOf l) (ofW_bit l) _ (hT.keep hb1)).mono ?_
  rintro e w2 ⟨u, rfl, hu, hb2⟩
  go_wp2
  go_ret
  exact ⟨u, rfl, ⟨hu.1, hu.2.mono (hb1.size)⟩, below_trans hb1 hb2⟩
theorem Union_any (va vb : Value) (a b : List Sp) (w : World) (hT : Tab w) (ha : IsSpans w va a) (hb : IsSpans w vb b) :
    Calls Tryd.prog 49 #[va, vb] w fun e w' => ∃ u, e = .returned u ∧ IsSpansF w' w.heap.size u (canon fun k => setOf a k || setOf b k) ∧ Below w.heap.size w w' := by
  go_enter Tryd.func49, Tryd.ntmps49
  go_wp2_with fail
  refine (of_any va a _ ha).mono ?_
  rintro e w1 ⟨rfl, hb1⟩
  go_wp2_with fail
  refine (of_any vb b _ (hb.keep hb1)).mono ?_
  rintro e w2 ⟨rfl, hb2⟩
  go_wp2_with fail
  refine (list_int _ _ (u64_or_nat _ _ (ofW_lt a) (ofW_lt b)) (or_lt (ofW_lt a) (ofW_lt b)) (fun k => setOf a k || setOf b k) (fun k hk => by rw [Nat.testBit_or, ofW_bit a k hk, ofW_bit b k hk]) _ ((hT.keep hb1).keep hb2)).mono ?_
  rintro e w3 ⟨u, rfl, hu, hb3⟩
  go_wp2
  go_ret
  exact ⟨u, rfl, ⟨hu.1, hu.2.mono ((below_trans hb1 hb2).size)⟩, below_trans (below_trans hb1 hb2) hb3⟩
theorem Meet_any (va vb : Value) (a b : List Sp) (w : World) (hT : Tab w) (ha : IsSpans w va a) (hb : IsSpans w vb b) :
    Calls Tryd.prog 84 #[va, vb] w fun e w' => ∃ u, e = .returned u ∧ IsSpansF w' w.heap.size u (canon fun k => setOf a k && setOf b k) ∧ Below w.heap.size w w' := by
  go_enter Tryd.func84, Tryd.ntmps84
  go_wp2_with fail
  refine (of_any va a _ ha).mono ?_
  rintro e w1 ⟨rfl, hb1⟩
  go_wp2_with fail
  refine (of_any vb b _ (hb.keep hb1)).mono ?_
  rintro e w2 ⟨rfl, hb2⟩
  go_wp2_with fail
  obtain ⟨c0, c1⟩ := cell2 w2 (.int .u64 (ofW a)) (.int .u64 (ofW b)) 101
  refine (all_any _ _ _ (ofW_lt a) (ofW_lt b) _ c0 c1).mono ?_
  rintro e w3 ⟨rfl, rfl⟩
  go_wp2_with fail
  have hb3 : Below w2.heap.size w2 (w2.alloc (.cells #[.int .u64 (ofW a), .int .u64 (ofW b)] 101)) := (Below.refl _ _).alloc (Nat.le_refl _) _
  refine (list_int _ _ rfl (and_lt (ofW_lt b)) (fun k => setOf a k && setOf b k) (fun k hk => by rw [Nat.testBit_and, ofW_bit a k hk, ofW_bit b k hk]) _ (((hT.keep hb1).keep hb2).keep hb3)).mono ?_
  rintro e w4 ⟨u, rfl, hu, hb4⟩
  go_wp2
  go_ret
  exact ⟨u, rfl, ⟨hu.1, hu.2.mono ((below_trans (below_trans hb1 hb2) hb3).size)⟩, below_trans (below_trans (below_trans hb1 hb2) hb3) hb4⟩
theorem Minus_any (va vb : Value) (a b : List Sp) (w : World) (hT : Tab w) (ha : IsSpans w va a) (hb : IsSpans w vb b) :
    Calls Tryd.prog 48 #[va, vb] w fun e w' => ∃ u, e = .returned u ∧ IsSpansF w' w.heap.size u (canon fun k => setOf a k && !setOf b k) ∧ Below w.heap.size w w' := by
  go_enter Tryd.func48, Tryd.ntmps48
  go_wp2_with fail
  refine (of_any va a _ ha).mono ?_
  rintro e w1 ⟨rfl, hb1⟩
  go_wp2_with fail
  refine (of_any vb b _ (hb.keep hb1)).mono ?_
  rintro e w2 ⟨rfl, hb2⟩
  go_wp2_with fail
  rw [xor_top _ (ofW_lt b)]
  obtain ⟨c0, c1⟩ := cell2 w2 (.int .u64 (ofW a)) (.int .u64 (notW (ofW b) : Nat)) 101
  refine (all_any _ _ _ (ofW_lt a) (notW_lt _) _ c0 c1).mono ?_
  rintro e w3 ⟨rfl, rfl⟩
  go_wp2_with fail
  have hb3 : Below w2.heap.size w2 (w2.alloc (.cells #[.int .u64 (ofW a), .int .u64 (notW (ofW b) : Nat)] 101)) := (Below.refl _ _).alloc (Nat.le_refl _) _
  refine (list_int _ _ rfl (and_lt (notW_lt _)) (fun k => setOf a k && !setOf b k) (fun k hk => by rw [Nat.testBit_and, notW_bit _ _ (ofW_lt b) hk, ofW_bit a k hk, ofW_bit b k hk]) _ (((hT.keep hb1).keep hb2).keep hb3)).mono ?_
  rintro e w4 ⟨u, rfl, hu, hb4⟩
  go_wp2
  go_ret
  exact ⟨u, rfl, ⟨hu.1, hu.2.mono ((below_trans (below_trans hb1 hb2) hb3).size)⟩, below_trans (below_trans (below_trans hb1 hb2) hb3) hb4⟩
theorem bit_test (x n : Nat) (hx : x < 18446744073709551616) : (bits .and .u64 ((x : Int) / 2 ^ n) 1 == 1) = x.testBit n := by
  rw [castDiv, show (1 : Int) = ((1 : Nat) : Int) from rfl, u64_and_nat _ _ (div_lt x n hx) (by omega), Nat.testBit_eq_decide_div_mod_eq, show (1 : Nat) = 2 ^ 1 - 1 from rfl, Nat.and_two_pow_sub_one_eq_mod]
  generalize x / 2 ^ n = y
  rw [Bool.eq_iff_iff]; simp; omega
/-- Whether a moment is in a list's set. -/
def inSet (l : List Sp) (k : Int) : Bool := decide (0 ≤ k) && decide (k < 64) && has l k
theorem Has_any (va : Value) (a : List Sp) (k : Int) (w : World) (ha : IsSpans w va a) :
    Calls Tryd.prog 43 #[va, .int .i64 k] w fun e w' => e = .returned (.bool (inSet a k)) ∧ Below w.heap.size w w' := by
  by_cases h0 : 0 ≤ k
  · by_cases h1 : k < 64
    · obtain ⟨n, rfl⟩ := Int.eq_ofNat_of_zero_le h0
      have E := Lib.hid (show inSet a (n : Int) = (ofW a).testBit n from by rw [ofW_bit a n (by omega)]; simp [inSet, setOf]; omega)
      go_enter Tryd.func43, Tryd.ntmps43
      go_wp2_with (first | (go_at_call 95; refine (of_any va a _ ha).mono ?_; rintro e w1 ⟨rfl, hb1⟩))
      go_ret
      exact ⟨by rw [E.out, ← bit_test _ _ (ofW_lt a)]; rfl, hb1⟩
    · have E := Lib.hid (show inSet a k = false from by simp [inSet]; omega)
      go_enter Tryd.func43, Tryd.ntmps43
      go_wp2
      go_ret
      exact ⟨by rw [E.out]; rfl, Below.refl _ _⟩
  · have E := Lib.hid (show inSet a k = false from by simp [inSet]; omega)
    go_enter Tryd.func43, Tryd.ntmps43
    go_wp2
    go_ret
    exact ⟨by rw [E.out]; rfl, Below.refl _ _⟩
end Go.Proofs.YtdibijhaiaiifaaDoor
/- The walks of the two comparisons of lists. -/
namespace Go.Proofs.YtdibijhaiaiifaaDoor
open Go.RowKit
theorem list_eq_of {a b : List Sp} (h : a.length = b.length) (he : ∀ i, i < a.length → a.getD i (0, 0) = b.getD i (0, 0)) : a = b := by
  apply List.ext_getElem h
  intro i h1 h2
  have := he i h1
  simpa [List.getD_eq_getElem?_getD, List.getElem?_eq_getElem h1, List.getElem?_eq_getElem h2] using this
theorem run_neq_sp (p q p' q' : Int) (w : World) : (binOp .neq 86 (.agg #[.int .i64 p, .int .i64 q]) (.agg #[.int .i64 p', .int .i64 q'])).run Tryd.prog w = .ok (.bool (!(p == p' && q == q'))) w := by
  have hp : Tryd.prog.stoodInHeld 86 = false := by kernel_rfl
  have hf : Tryd.prog.underlying 86 = some (.struct (Tryd.prog.fieldsOf 86)) := by kernel_rfl
  rw [run_neq_struct, run_equalIn_agg w 9999 86 _ _ hf hp]
  simp [go_sem]
  by_cases h : p = p' <;> by_cases h' : q = q' <;> simp [h, h']
theorem run_guard_sp (x y : Operand) (u v : Array Value) (w : World) : (eqGuard .neq 86 x y (.agg u) (.agg v)).run Tryd.prog w = .ok () w := run_eqGuard_agg w .neq 86 x y u v (by kernel_rfl)
theorem neq_yes (p q p' q' : Int) (h : ¬ (p = p' ∧ q = q')) (w : World) : (binOp .neq 86 (.agg #[.int .i64 p, .int .i64 q]) (.agg #[.int .i64 p', .int .i64 q'])).run Tryd.prog w = .ok (.bool true) w := by
  rw [run_neq_sp]; congr 2; simp; omega
theorem neq_no (p q : Int) (w : World) : (binOp .neq 86 (.agg #[.int .i64 p, .int .i64 q]) (.agg #[.int .i64 p, .int .i64 q])).run Tryd.prog w = .ok (.bool false) w := by
  rw [run_neq_sp]; simp
set_option maxHeartbeats 1000000 in
theorem Equal_any (va vb : Value) (a b : List Sp) (w : World) (ha : IsSpans w va a) (hb : IsSpans w vb b) :
    Calls Tryd.prog 119 #[va, vb] w fun e w' => e = .returned (.bool (decide (a = b))) ∧ Below w.heap.size w w' := by
  obtain ⟨aa, ca, rfl, hsa, hma⟩ := ha
  obtain ⟨ab, cb, rfl, hsb, hmb⟩ := hb
  have hg := run_guard_sp
  by_cases hn : a.length = b.length
  · have hne : ((a.length : Int) != (b.length : Int)) = false := by rw [bne_eq_false_iff_eq]; omega
    have HN := Lib.hid hn
    clear hn
    go_enter Tryd.func119, Tryd.ntmps119
    go_wp2
    go_loopw [5, 13] (fun _ i wr => ∃ k : Nat, k ≤ a.length ∧ i = .int .i64 k ∧ (∀ i, i < k → a.getD i (0, 0) = b.getD i (0, 0)) ∧ Below w.heap.size w wr) (fun _ i _ => a.length - (intOf i).toNat)
    case atStart => exact ⟨0, Nat.zero_le _, rfl, by omega, Below.refl _ _⟩
    case round =>
      obtain ⟨k, hk, rfl, he, hbel⟩ := hrel
      have HE := Lib.hid he
      clear he
      by_cases hlt : k < a.length
      · have hlt' : k < b.length := by have := HN.out; omega
        obtain ⟨b1, o1, rfl, hc1⟩ := (hsa.keep hbel).at_ hlt
        obtain ⟨b2, o2, rfl, hc2⟩ := (hsb.keep hbel).at_ hlt'
        obtain ⟨c1, c2⟩ := hc1 k hlt
        obtain ⟨c3, c4⟩ := hc2 k hlt'
        clear hc1 hc2
        obtain ⟨s, hs⟩ : ∃ s, a.getD k (0, 0) = s := ⟨_, rfl⟩
        obtain ⟨t, ht⟩ : ∃ t, b.getD k (0, 0) = t := ⟨_, rfl⟩
        rw [hs] at c1 c2
        rw [ht] at c3 c4
        have HS := Lib.hid hs
        have HT := Lib.hid ht
        clear hs ht
        obtain ⟨p, q⟩ := s
        obtain ⟨p', q'⟩ := t
        by_cases hpq : p = p' ∧ q = q'
        · obtain ⟨rfl, rfl⟩ := hpq
          have hr := neq_no p q
          go_wp2
          go_quiet (fail)
          go_wp2
          go_roundw
          case rel =>
            refine ⟨k + 1, by omega, by go_num, fun i hi => ?_, below_drewN hbel _⟩
            rcases (show i < k ∨ i = k from by omega) with h | h
            · exact HE.out i h
            · rw [h, HS.out, HT.out]
          case measure => simp [intOf]; omega
        · have hr := neq_yes p q p' q' hpq
          have hf := Lib.hid (show decide (a = b) = false from by
            rw [decide_eq_false_iff_not]; rintro rfl
            have e := HS.out.symm.trans HT.out
            exact hpq ⟨congrArg Prod.fst e, congrArg Prod.snd e⟩)
          clear hpq
          go_wp2
          go_quiet (fail)
          go_wp2
          go_ret
          exact ⟨by rw [hf.out]; rfl, below_drewN hbel _⟩
      · have hf := Lib.hid (show decide (a = b) = true from by
          rw [decide_eq_true_iff]; exact list_eq_of HN.out (fun i hi => HE.out i (by omega)))
        go_wp2
        go_ret
        exact ⟨by rw [hf.out]; rfl, hbel⟩
  · have hne : ((a.length : Int) != (b.length : Int)) = true := by rw [bne_iff_ne]; omega
    have hf := Lib.hid (show decide (a = b) = false from by rw [decide_eq_false_iff_not]; rintro rfl; exact hn rfl)
    clear hn
    go_enter Tryd.func119, Tryd.ntmps119
    go_wp2
    go_ret
    exact ⟨by rw [hf.out]; rfl, Below.refl _ _⟩
set_option maxHeartbeats 1000000 in
theorem Same_any (va vb : Value) (a b : List Sp) (w : World) (ha : IsSpans w va a) (hb : IsSpans w vb b) :
    Calls Tryd.prog 21 #[va, vb] w fun e w' => e = .returned (.bool (decide (a = b))) ∧ Below w.heap.size w w' := by
  obtain ⟨aa, ca, rfl, hsa, hma⟩ := ha
  obtain ⟨ab, cb, rfl, hsb, hmb⟩ := hb
  have hg := run_guard_sp
  by_cases hn : a.length = b.length
  · have hne : ((a.length : Int) != (b.length : Int)) = false := by rw [bne_eq_false_iff_eq]; omega
    have HN := Lib.hid hn
    clear hn
    go_enter Tryd.func21, Tryd.ntmps21
    go_wp2
    go_loopw [5] (fun i wr => ∃ k : Nat, k ≤ a.length ∧ i = .int .i64 k ∧ (∀ i, i < k → a.getD i (0, 0) = b.getD i (0, 0)) ∧ Below w.heap.size w wr) (fun i _ => a.length - (intOf i).toNat)
    case atStart => exact ⟨0, Nat.zero_le _, rfl, by omega, Below.refl _ _⟩
    case round =>
      obtain ⟨k, hk, rfl, he, hbel⟩ := hrel
      have HE := Lib.hid he
      clear he
      by_cases hlt : k < a.length
      · have hlt' : k < b.length := by have := HN.out; omega
        obtain ⟨b1, o1, rfl, hc1⟩ := (hsa.keep hbel).at_ hlt
        obtain ⟨b2, o2, rfl, hc2⟩ := (hsb.keep hbel).at_ hlt'
        obtain ⟨c1, c2⟩ := hc1 k hlt
        obtain ⟨c3, c4⟩ := hc2 k hlt'
        clear hc1 hc2
        obtain ⟨s, hs⟩ : ∃ s, a.getD k (0, 0) = s := ⟨_, rfl⟩
        obtain ⟨t, ht⟩ : ∃ t, b.getD k (0, 0) = t := ⟨_, rfl⟩
        rw [hs] at c1 c2
        rw [ht] at c3 c4
        have HS := Lib.hid hs
        have HT := Lib.hid ht
        clear hs ht
        obtain ⟨p, q⟩ := s
        obtain ⟨p', q'⟩ := t
        by_cases hpq : p = p' ∧ q = q'
        · obtain ⟨rfl, rfl⟩ := hpq
          have hr := neq_no p q
          go_wp2
          go_quiet (fail)
          go_wp2
          go_roundw
          case rel =>
            refine ⟨k + 1, by omega, by go_num, fun i hi => ?_, below_drewN hbel _⟩
            rcases (show i < k ∨ i = k from by omega) with h | h
            · exact HE.out i h
            · rw [h, HS.out, HT.out]
          case measure => simp [intOf]; omega
        · have hr := neq_yes p q p' q' hpq
          have hf := Lib.hid (show decide (a = b) = false from by
            rw [decide_eq_false_iff_not]; rintro rfl
            have e := HS.out.symm.trans HT.out
            exact hpq ⟨congrArg Prod.fst e, congrArg Prod.snd e⟩)
          clear hpq
          go_wp2
          go_quiet (fail)
          go_wp2
          go_ret
          exact ⟨by rw [hf.out]; rfl, below_drewN hbel _⟩
      · have hf := Lib.hid (show decide (a = b) = true from by
          rw [decide_eq_true_iff]; exact list_eq_of HN.out (fun i hi => HE.out i (by omega)))
        go_wp2
        go_ret
        exact ⟨by rw [hf.out]; rfl, hbel⟩
  · have hne : ((a.length : Int) != (b.length : Int)) = true := by rw [bne_iff_ne]; omega
    have hf := Lib.hid (show decide (a = b) = false from by rw [decide_eq_false_iff_not]; rintro rfl; exact hn rfl)
    clear hn
    go_enter Tryd.func21, Tryd.ntmps21
    go_wp2
    go_ret
    exact ⟨by rw [hf.out]; rfl, Below.refl _ _⟩
end Go.Proofs.YtdibijhaiaiifaaDoor
