/- The law LogSums. -/
import Derived.Test.YtcembocnkndlhaaJ6
import Derived.Test.YtcembocnkndlhaaJ7
namespace Go.Proofs.Ytcembocnkndlhaa
open Go.RowKit
theorem wrap_u8n (n : Int) : IntKind.u8.wrap n = n % 256 := by simp [IntKind.wrap, IntKind.bits, IntKind.signed]
theorem bits_xor_u8 (x y : UInt8) : bits .xor .u8 (x.toNat : Int) (y.toNat : Int) = ((x ^^^ y).toNat : Int) := by
  have ha := x.toNat_lt
  have hb := y.toNat_lt
  have hx : x.toNat ^^^ y.toNat < 2 ^ 8 := Nat.xor_lt_two_pow ha hb
  have h1 : (BitVec.ofInt 8 (x.toNat : Int)).toNat = x.toNat := by
    rw [BitVec.ofInt_natCast, BitVec.toNat_ofNat]; exact Nat.mod_eq_of_lt ha
  have h2 : (BitVec.ofInt 8 (y.toNat : Int)).toNat = y.toNat := by
    rw [BitVec.ofInt_natCast, BitVec.toNat_ofNat]; exact Nat.mod_eq_of_lt hb
  show IntKind.u8.wrap ((BitVec.ofInt 8 (x.toNat : Int) ^^^ BitVec.ofInt 8 (y.toNat : Int)).toNat : Int) = _
  rw [BitVec.toNat_xor, h1, h2, wrap_u8n, UInt8.toNat_xor]
  omega
theorem xor_ne {x y : UInt8} (h : y ≠ 0) : x ^^^ y ≠ x := fun e => h (by
  have : x ^^^ (x ^^^ y) = x ^^^ x := by rw [e]
  rwa [← UInt8.xor_assoc, UInt8.xor_self, UInt8.zero_xor] at this)
theorem own_setB {w : World} {base g cap n : Nat} {l : List UInt8} (h : OwnB w base (.slice (some ⟨g, 0, none⟩) n cap) l) {k : Nat} (c : UInt8) : OwnB (w.setCell ⟨g, k, none⟩ (.int .u8 c.toNat)) base (.slice (some ⟨g, 0, none⟩) n cap) (l.set k c) := by
  obtain ⟨g', cap', cur, e, k1, k2, k3, k4, k5, k6⟩ := h.form
  cases e
  refine ⟨⟨by simp [bytesV], .inr ⟨g, cap, cur.setIfInBounds k (.int .u8 c.toNat), by simp, k1, heap_setCell_same w g k cur 5 _ k2, by simpa using k3, k4, by simp [k5], ?_⟩⟩, by simp⟩
  rw [Nat.mul_one, List.length_set, Array.toList_setIfInBounds, List.take_set, k6]
  unfold bytesV
  rw [List.map_set]
theorem own_cellB {w : World} {base g cap n : Nat} {l : List UInt8} (h : OwnB w base (.slice (some ⟨g, 0, none⟩) n cap) l) {k : Nat} {x : UInt8} (hx : l[k]? = some x) : w.cell? ⟨g, k, none⟩ = some (.int .u8 x.toNat) ∧ w.frozen? ⟨g, k, none⟩ = false := by
  obtain ⟨g', cap', cur, e, k1, k2, k3, k4, k5, k6⟩ := h.form
  cases e
  refine ⟨cell_at k2 ?_, free_at (j := k) k2⟩
  have hlt : k < l.length := (List.getElem?_eq_some_iff.1 hx).1
  rw [← Array.getElem?_toList, ← List.getElem?_take_of_lt hlt, k6]
  unfold bytesV
  rw [List.getElem?_map, hx]
  rfl
theorem own_first {w : World} {base : Nat} {v : Value} {l : List UInt8} (h : w.ownsRow base 5 1 v (0 + l.length) ([] ++ l.flatMap encB)) (hl : 0 < l.length) : ∃ g cap, v = .slice (some ⟨g, 0, none⟩) l.length cap ∧ base ≤ g ∧ OwnB w base (.slice (some ⟨g, 0, none⟩) l.length cap) l := by
  rw [Nat.zero_add, List.nil_append, flat_bytes] at h
  rcases h.2 with ⟨_, h0⟩ | ⟨g, cap, cur, rfl, hg, _⟩
  · omega
  · exact ⟨g, cap, rfl, hg, h, by simp⟩
theorem push_form {w : World} {base : Nat} {v : Value} {l : List UInt8} {x : UInt8} (h : OwnB w base v (l ++ [x])) (hl : l.length ≤ 1000000) : ∃ g c, v = .slice (some ⟨g, 0, none⟩) (l.length + 1) c ∧ IsBytes w (.slice (some ⟨g, 0, none⟩) (l.length + 1) c) (l ++ [x]) := by
  have hi := h.is (by simp; omega)
  obtain ⟨g, c, cu, rfl, -⟩ := h.form
  rw [List.length_append] at hi ⊢
  exact ⟨g, c, rfl, hi⟩
theorem beq_self_int (n : Int) : (n != n) = false := by simp
set_option maxHeartbeats 8000000 in
set_option maxRecDepth 100000 in
theorem law11_any (v : Value) (l : List UInt8) (a b : Int) (w : World) (t0 : IsBytes w v l) (ha : 0 ≤ a ∧ a < 65536) (hb : 0 ≤ b ∧ b < 256) : Calls Try.prog 11 #[v, .int .u16 a, .int .u8 b] w fun e w' => e = .returned (.bool true) ∧ Below w.heap.size w w' := by
  obtain ⟨i0, hi, hz0, hz1, hz2⟩ := info_parts info5
  have h0 := t0
  obtain ⟨bpa, bpc, rfl, -, mb⟩ := t0
  obtain ⟨y, hy⟩ : ∃ y : UInt8, (y.toNat : Int) = b := ⟨UInt8.ofNat b.toNat, by simp [UInt8.toNat_ofNat']; omega⟩
  subst hy
  go_enter Try.func11, Try.ntmps11
  go_wp2_with fail
  refine (head36_any _).mono ?_
  rintro e w1 ⟨rfl, b1⟩
  by_cases h3 : l.length ≤ 300
  case neg =>
    have hq : decide (300 < (l.length : Int)) = true := decide_eq_true (by omega)
    go_wp2
    go_ret
    exact ⟨rfl, b1⟩
  have hq : decide (300 < (l.length : Int)) = false := decide_eq_false (by omega)
  by_cases hn : l.length = 0
  · have hq2 : ((l.length : Int) == 0) = true := by rw [hn]; rfl
    go_wp2
    go_ret
    exact ⟨rfl, b1⟩
  have hq2 : ((l.length : Int) == 0) = false := by rw [beq_eq_false_iff_ne]; omega
  by_cases hy0 : y = 0
  · have hq3 : ((y.toNat : Int) == 0) = true := by subst hy0; rfl
    go_wp2
    go_ret
    exact ⟨rfl, b1⟩
  have hyn : y.toNat ≠ 0 := fun h => hy0 (UInt8.toNat_inj.1 (by simpa using h))
  have hq3 : ((y.toNat : Int) == 0) = false := by rw [beq_eq_false_iff_ne]; omega
  have hl0 : 0 < l.length := by omega
  obtain ⟨k, hk⟩ : ∃ k : Nat, a % (l.length : Int) = (k : Int) := ⟨(a % (l.length : Int)).toNat, by rw [Int.toNat_of_nonneg (Int.emod_nonneg _ (by omega))]⟩
  have hkl : k < l.length := by have := Int.emod_lt_of_pos a (show (0 : Int) < (l.length : Int) by omega); omega
  have HY0 := Lib.hid hy0
  have HK := Lib.hid hk
  have hlz : ((l.length : Int) = 0) = False := eq_false (by omega)
  clear hk hn hy0
  have hlw1 := h0.keep b1
  have hone := bytes_one l
  have hm1 : 0 + l.length ≤ maxLen := by unfold maxLen; omega
  have hm2 : (0 + l.length) * 1 ≤ 140737488355328 := by omega
  have hm3 : l.length + 1 ≤ maxLen := by unfold maxLen; omega
  have hm4 : (l.length + 1) * 1 ≤ 140737488355328 := by omega
  have hl6 : l.length ≤ 1000000 := by omega
  have hkI : (k : Int) < (l.length : Int) := by omega
  have hk0 : (0 : Int) ≤ (k : Int) := by omega
  have h00 : (w1.alloc (.cells #[] 5)).ownsRow w1.heap.size 5 1 (.slice (some ⟨w1.heap.size, 0, none⟩) 0 0) 0 [] := World.ownsRow_lit w1 #[] 0 (Nat.le_refl _) (by decide) rfl
  have bE := below_new w1 (.cells #[] 5)
  have hx := IsBytes.keep hlw1 bE
  have hof : ∀ q, Value.ownBlock (.slice (some ⟨w1.heap.size, 0, none⟩) 0 0) = some q → w1.heap.size ≤ q := by
    intro q hq
    obtain rfl : w1.heap.size = q := by simpa [Value.ownBlock] using hq
    exact Nat.le_refl _
  have hsz : w1.heap.size ≤ (w1.alloc (.cells #[] 5)).heap.size := by simp
  go_upto_region 6 with (at_builtin; refine wpList_append_rows rfl encB _ _ 26 rfl w1.heap.size 5 i0 (.int .u8 0) 1 1 Try.underlying26 hi hz0 hz1 hz2 rfl (by decide) _ _ _ rfl h00 _ l rfl hx (fun _ _ => rfl) hone hm1 hm2 hsz ?_; intro v7 w7 own7 grow7 at7; have bb7 := bE.grown grow7 hsz hof; obtain ⟨g7, c7, rfl, hg7, hO7⟩ := own_first own7 hl0; clear own7 grow7 at7)
  rw [HK.out]
  have b7 := below_trans b1 bb7
  have hgx : l[k]? = some l[k] := List.getElem?_eq_getElem hkl
  have HSET := Lib.hid (sum_set hkl (xor_ne (x := l[k]) HY0.out))
  generalize l[k] = x at *
  obtain ⟨hcx, hfx⟩ := own_cellB hO7 hgx
  have hxor := bits_xor_u8 x y
  obtain ⟨cc, hcc⟩ : ∃ cc, x ^^^ y = cc := ⟨_, rfl⟩
  rw [hcc] at hxor HSET
  clear hcc
  have hO8 := own_setB (k := k) hO7 cc
  have b8 := b7.setCell (p := ⟨g7, k, none⟩) (show w.heap.size ≤ g7 by have := b1.size; omega) (.int .u8 cc.toNat)
  clear hgx h00 bE hx hof hsz bb7 hO7 b7
  obtain ⟨w8, hw8⟩ : ∃ X : World, X = w7.setCell ⟨g7, k, none⟩ (.int .u8 cc.toNat) := ⟨_, rfl⟩
  rw [← hw8] at hO8 b8
  go_upto_region 7 with fail
  rw [← hw8]
  clear hw8 hcx hfx hxor
  have hlw8 := h0.keep b8
  obtain ⟨M, hM⟩ : ∃ M, l.set k cc = M := ⟨_, rfl⟩
  have hML : M.length = l.length := by rw [← hM, List.length_set]
  rw [hM] at hO8 HSET
  clear hM
  have hM8 := hO8.is (by omega)
  obtain ⟨s1, hs1⟩ : ∃ s : Int, (sumN M : Int) = s := ⟨_, rfl⟩
  obtain ⟨s2, hs2⟩ : ∃ s : Int, (sumN l : Int) = s := ⟨_, rfl⟩
  have hne : (s1 == s2) = false := by rw [beq_eq_false_iff_ne, ← hs1, ← hs2]; intro e; exact HSET.out (by omega)
  have HS1 := Lib.hid hs1
  have HS2 := Lib.hid hs2
  obtain ⟨p1, hp1⟩ : ∃ s : Int, (pagesN l.length : Int) = s := ⟨_, rfl⟩
  have HP1 := Lib.hid hp1
  have HP2 := Lib.hid (show (pagesN M.length : Int) = p1 by rw [hML]; exact hp1)
  have hM6 : M.length ≤ 1000000 := by omega
  have HML := Lib.hid hML
  have hpp := beq_self_int p1
  clear hO8 hs1 hs2 hp1 hML
  go_wp2_with fail
  (with_reducible refine sum_ts hM8 HS1 ?_)
  go_wp2_with fail
  (with_reducible refine sum_ts hlw8 HS2 ?_)
  go_wp2_with fail
  (with_reducible refine pagesI_ts hM8 hM6 HP2 ?_)
  go_wp2_with fail
  (with_reducible refine pagesI_ts hlw8 hl6 HP1 ?_)
  go_upto_region 9 with fail
  obtain ⟨y1, hy1⟩ : ∃ y1 : UInt8, y - 1 = y1 := ⟨_, rfl⟩
  have hyy : y ≠ y1 := by rw [← hy1]; intro e; have := congrArg UInt8.toNat e; rw [UInt8.toNat_sub] at this; have := y.toNat_lt; simp at *; omega
  have hsub : IntKind.u8.wrap ((y.toNat : Int) - 1) = (y1.toNat : Int) := by rw [← hy1, wrap_u8n, UInt8.toNat_sub]; have := y.toNat_lt; simp; omega
  have HYY := Lib.hid (sum_snoc (l := l) hyy)
  obtain ⟨s3, hs3⟩ : ∃ s : Int, (sumN (l ++ [y]) : Int) = s := ⟨_, rfl⟩
  obtain ⟨s4, hs4⟩ : ∃ s : Int, (sumN (l ++ [y1]) : Int) = s := ⟨_, rfl⟩
  have hne2 : (s3 != s4) = true := by rw [bne_iff_ne, ← hs3, ← hs4]; intro e; exact HYY.out (by omega)
  have HS3 := Lib.hid hs3
  have HS4 := Lib.hid hs4
  clear hs3 hs4 hyy hy1
  have h00 : (w8.alloc (.cells #[] 5)).ownsRow w8.heap.size 5 1 (.slice (some ⟨w8.heap.size, 0, none⟩) 0 0) 0 [] := World.ownsRow_lit w8 #[] 0 (Nat.le_refl _) (by decide) rfl
  have bE := below_new w8 (.cells #[] 5)
  have hx := IsBytes.keep hlw8 bE
  have hof : ∀ q, Value.ownBlock (.slice (some ⟨w8.heap.size, 0, none⟩) 0 0) = some q → w8.heap.size ≤ q := by
    intro q hq
    obtain rfl : w8.heap.size = q := by simpa [Value.ownBlock] using hq
    exact Nat.le_refl _
  have hsz : w8.heap.size ≤ (w8.alloc (.cells #[] 5)).heap.size := by simp
  go_upto_region 10 with (first
    | (at_builtin; refine wpList_append_rows rfl encB (.tmp 55) (.tmp 56) 26 rfl w8.heap.size 5 i0 (.int .u8 0) 1 1 Try.underlying26 hi hz0 hz1 hz2 rfl (by decide) _ _ _ rfl h00 _ l rfl hx (fun _ _ => rfl) hone hm1 hm2 hsz ?_; intro v9 w9 own9 grow9 at9; have bb9 := bE.grown grow9 hsz hof; obtain ⟨g9, c9, rfl, hg9, hO9⟩ := own_first own9 hl0; have hs9 : ∀ o : Obj, w8.heap.size ≤ (w9.alloc o).heap.size := (fun o => by have := bb9.size; simp; omega); clear own9 grow9 at9 h00 bE hx hof hsz)
    | (at_builtin; refine wpList_append_own _ rfl (.tmp 57) (.tmp 59) 26 rfl w8.heap.size 5 i0 (.int .u8 0) 1 1 Try.underlying26 hi hz0 hz1 hz2 rfl (by decide) _ _ _ rfl (hO9.1.alloc _) ⟨w9.heap.size, 0, none⟩ 1 1 [.int .u8 y.toNat] rfl rfl (cell_one' _ _ _) (by intro u hu; obtain rfl := List.mem_singleton.1 hu; rfl) hm3 hm4 (hs9 _) ?_; intro v10 w10 own10 grow10 ne10; obtain ⟨hO10, bb10⟩ := own_push hO9 (below_new w9 _) own10 rfl grow10 (hs9 _); obtain ⟨g10, c10, rfl, hB10⟩ := push_form hO10 hl6; clear own10 grow10 ne10)
    | (go_at_call 46; (with_reducible refine sum_ts hB10 HS3 ?_); have b10 := below_trans b8 (bb9.trans bb10); have hlw10 := h0.keep b10;skip))
  have h00 : (w10.alloc (.cells #[] 5)).ownsRow w10.heap.size 5 1 (.slice (some ⟨w10.heap.size, 0, none⟩) 0 0) 0 [] := World.ownsRow_lit w10 #[] 0 (Nat.le_refl _) (by decide) rfl
  have bE := below_new w10 (.cells #[] 5)
  have hx := IsBytes.keep hlw10 bE
  have hof : ∀ q, Value.ownBlock (.slice (some ⟨w10.heap.size, 0, none⟩) 0 0) = some q → w10.heap.size ≤ q := by
    intro q hq
    obtain rfl : w10.heap.size = q := by simpa [Value.ownBlock] using hq
    exact Nat.le_refl _
  have hsz : w10.heap.size ≤ (w10.alloc (.cells #[] 5)).heap.size := by simp
  go_wp2_with (first
    | (at_builtin; refine wpList_append_rows rfl encB (.tmp 62) (.tmp 63) 26 rfl w10.heap.size 5 i0 (.int .u8 0) 1 1 Try.underlying26 hi hz0 hz1 hz2 rfl (by decide) _ _ _ rfl h00 _ l rfl hx (fun _ _ => rfl) hone hm1 hm2 hsz ?_; intro v11 w11 own11 grow11 at11; have bb11 := bE.grown grow11 hsz hof; obtain ⟨g11, c11, rfl, hg11, hO11⟩ := own_first own11 hl0; have hs11 : ∀ o : Obj, w10.heap.size ≤ (w11.alloc o).heap.size := (fun o => by have := bb11.size; simp; omega); clear own11 grow11 at11 h00 bE hx hof hsz)
    | (at_builtin; refine wpList_append_own _ rfl (.tmp 64) (.tmp 67) 26 rfl w10.heap.size 5 i0 (.int .u8 0) 1 1 Try.underlying26 hi hz0 hz1 hz2 rfl (by decide) _ _ _ rfl (hO11.1.alloc _) ⟨w11.heap.size, 0, none⟩ 1 1 [.int .u8 y1.toNat] rfl rfl (cell_one' _ _ _) (by intro u hu; obtain rfl := List.mem_singleton.1 hu; rfl) hm3 hm4 (hs11 _) ?_; intro v12 w12 own12 grow12 ne12; obtain ⟨hO12, bb12⟩ := own_push hO11 (below_new w11 _) own12 rfl grow12 (hs11 _); obtain ⟨g12, c12, rfl, hB12⟩ := push_form hO12 hl6; clear own12 grow12 ne12)
    | (go_at_call 46; (with_reducible refine sum_ts hB12 HS4 ?_); have b12 := below_trans b10 (bb11.trans bb12)))
  go_ret
  exact ⟨rfl, b12⟩
end Go.Proofs.Ytcembocnkndlhaa
