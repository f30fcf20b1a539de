/- The law LatticeLists. -/
import Derived.Test.YtkjlflmcojmfgaaDoorWp
import Derived.Test.YtkjlflmcojmfgaaDoorL7
namespace Go.Proofs.YtkjlflmcojmfgaaDoor
open Go.RowKit
def fwd (n : Nat) (y : List UInt8) (k : Nat) : List Nat := (y.take k).map fun b => b.toNat % n
def bwd (n : Nat) (y : List UInt8) (k : Nat) : List Nat := (y.reverse.take k).map fun b => b.toNat % n
theorem fwd_len {n : Nat} {y : List UInt8} {k : Nat} (h : k ≤ y.length) : (fwd n y k).length = k := by unfold fwd; rw [List.length_map, List.length_take, Nat.min_eq_left h]
theorem bwd_len {n : Nat} {y : List UInt8} {k : Nat} (h : k ≤ y.length) : (bwd n y k).length = k := by unfold bwd; rw [List.length_map, List.length_take, List.length_reverse, Nat.min_eq_left h]
theorem fwd_succ {n : Nat} {y : List UInt8} {k : Nat} (h : k < y.length) : fwd n y (k + 1) = fwd n y k ++ [y[k].toNat % n] := by
  unfold fwd; rw [List.take_succ_eq_append_getElem h, List.map_append]; rfl
theorem bwd_succ {n : Nat} {y : List UInt8} {k : Nat} (h : k < y.length) : bwd n y (k + 1) = bwd n y k ++ [(y[y.length - 1 - k]'(by omega)).toNat % n] := by
  unfold bwd; rw [List.take_succ_eq_append_getElem (by simpa using h), List.map_append, List.getElem_reverse]; rfl
theorem fwd_lt {n : Nat} {y : List UInt8} {k : Nat} (hn : 0 < n) : ∀ a ∈ fwd n y k, a < n := fun a h => by
  obtain ⟨b, -, rfl⟩ := List.mem_map.1 h; exact Nat.mod_lt _ hn
theorem bwd_lt {n : Nat} {y : List UInt8} {k : Nat} (hn : 0 < n) : ∀ a ∈ bwd n y k, a < n := fun a h => by
  obtain ⟨b, -, rfl⟩ := List.mem_map.1 h; exact Nat.mod_lt _ hn
theorem bwd_same {n : Nat} {y : List UInt8} : ∀ a, a ∈ bwd n y y.length ↔ a ∈ fwd n y y.length := fun a => by
  unfold bwd fwd
  rw [List.take_of_length_le (by simp), List.take_of_length_le (Nat.le_refl _)]
  simp
theorem castI_append (l m : List Nat) : castI (l ++ m) = castI l ++ castI m := by simp [castI]
theorem run_catJ {wr w : World} {base : Nat} {v : Value} {l m : List Int} {g c : Nat} {ty : TypeId} (hO : OwnI wr base v l) (hb : Below wr.heap.size wr w) (hm : IsInts w (.slice (some ⟨g, 0, none⟩) m.length c) m) (hbase : base ≤ wr.heap.size) (hL : l.length ≤ 1000000) (hM : m.length ≤ 1000000) :
    ∃ v' w', (Builtin.append_ #[26, 26] ty #[v, .slice (some ⟨g, 0, none⟩) m.length c]).run Tryd.prog w = .ok v' w' ∧ OwnI w' base v' (l ++ m) ∧ Below base wr w' := by
  obtain ⟨i0, hi, hz0, hz1, hz2⟩ := info_parts' info3
  have hown : w.ownsRow base 3 1 v l.length (intsV l) := own_keep hO hb
  obtain ⟨v', w', hrun, h2, hg, -, -⟩ := run_append_own_at (P := Tryd.prog) w base 26 ty 3 i0 (.int .i64 0) 1 8 Tryd.underlying26 hi hz0 hz1 hz2 rfl (by decide) v l.length (intsV l) hown ⟨g, 0, none⟩ m.length c (intsV m) (by simp [intsV])
    (fun j y hj => by
      unfold intsV at hj
      rw [List.getElem?_map] at hj
      obtain ⟨x, hx, rfl⟩ := Option.map_eq_some_iff.1 hj
      obtain ⟨b, off, e, hc⟩ := IsInts.at_ hm hx
      injection e with e
      injection e with e1 e2
      subst e1 e2
      have e3 : (⟨g, 0, none⟩ : Addr).add j = ⟨g, 0 + j, none⟩ := by cases j <;> simp [Addr.add]
      rw [e3]
      exact hc) (by intro y hy; unfold intsV at hy; obtain ⟨x, -, rfl⟩ := List.mem_map.1 hy; rfl) (by unfold maxLen; omega) (by omega) (by have := hb.size; omega)
  have e : intsV l ++ intsV m = intsV (l ++ m) := by simp [intsV]
  rw [e] at h2
  refine ⟨v', w', hrun, by unfold OwnI; rw [List.length_append]; exact h2, (hb.mono hbase).trans ⟨hg.os, hg.tape, hg.output, hg.size, fun k hk => hg.block k (by have := hb.size; omega) fun e => by have := (hO.lt e.symm).1; omega⟩⟩
theorem step_catJ {wr w : World} {ops : Array Oper} {o : Oper} {a : Act} {K : Act → World → Prop} {Q : Exit → Act → World → Prop} {E : Prop} (hw : Region.wanted o (yielded ops a.tmps) = true) (s y : Operand) (ho : o.op = .call { callee := .builtin .append, args := #[s, y], argTypes := #[26, 26] })
    {base : Nat} {v : Value} {l m : List Int} {g c : Nat} (hs : a.eval s = v) (hy : a.eval y = .slice (some ⟨g, 0, none⟩) m.length c) (hO : OwnI wr base v l) (hb : Below wr.heap.size wr w) (hm : IsInts w (.slice (some ⟨g, 0, none⟩) m.length c) m) (hbase : base ≤ wr.heap.size) (hL : l.length ≤ 1000000) (hM : m.length ≤ 1000000)
    (h : ∀ v' w', OwnI w' base v' (l ++ m) → Below base wr w' → K (a.put o.dst v') w') : if Region.wanted o (yielded ops a.tmps) = true then Oper.wp Tryd.prog o a w K Q else E := by
  rw [if_pos hw]
  obtain ⟨v', w', hr, h2, h3⟩ := run_catJ (ty := o.type) hO hb hm hbase hL hM
  unfold Oper.wp execOp
  simp only [ho, resolve, invoke, builtin, Sem.run_bind, Sem.run_pure, Result.andThen_ok, List.map_toArray, List.map_cons, List.map_nil, hs, hy, hr]
  exact h v' w' h2 h3
theorem below_trans2 {B : Nat} {a w w' : World} (h : Below B a w) (k : Below w.heap.size w w') (hB : B ≤ w.heap.size) : Below B a w' := h.trans (k.mono hB)
theorem lub_ts {v : Value} {L : Ltc} {w : World} {lv : Value} {l : List Nat} {j : Nat} {Q : Ending → World → Prop} (hck : Hid (checkL L = 0)) (h : IsLtc w v L ∧ KeysAt w 0) (hl : IsInts w lv (castI l)) (hr : Hid (∀ a ∈ l, a < L.elems.length)) (hj : Hid (lub L.elems.length (ordL L) l = (j : Int))) (k : ∀ w', Below w.heap.size w w' → Q (.returned (.int .i64 j)) w') : Calls Tryd.prog 18 #[v, lv] w Q :=
  (lub_at h.1 hl h.2 hck hr.out).mono fun e w' ⟨he, hb⟩ => by subst he; rw [hj.out]; exact k w' hb
theorem OwnI.some_of {w : World} {base g : Nat} {v : Value} {l : List Int} (h : OwnI w base v l) (hg : v.ownBlock = some g) : ∃ c, v = .slice (some ⟨g, 0, none⟩) l.length c := by
  rcases h.2 with ⟨rfl, h0⟩ | ⟨g', cap, cur, rfl, _⟩
  · cases hg
  · obtain rfl : g' = g := by simpa [Value.ownBlock] using hg
    exact ⟨cap, rfl⟩
set_option maxHeartbeats 16000000 in
set_option maxRecDepth 100000 in
theorem law6_any (v : Value) (L : Ltc) (yv : Value) (y : List UInt8) (w : World) (h : IsLtc w v L) (hy : IsBytes w yv y) (hK : KeysAt w 0) : Calls Tryd.prog 6 #[v, yv] w fun e w' => e = .returned (.bool true) ∧ Below w.heap.size w w' := by
  have hy0 := hy
  obtain ⟨ya, yc, rfl, n1, n2, n3⟩ := IsRows.shape hy
  have h0 := h
  obtain ⟨ea, ec, ca, cc, rfl, -, -, m1, m2, m3⟩ := h.shape
  have g0 := heap_alloc_new w (.cells #[.string L.name.1, .slice ea L.elems.length ec, .slice ca L.covers.length cc, .int .i64 L.at_] 25)
  have b0 := below_new w (.cells #[.string L.name.1, .slice ea L.elems.length ec, .slice ca L.covers.length cc, .int .i64 L.at_] 25)
  obtain ⟨wb, hwb⟩ : ∃ x : World, x = w.alloc (.cells #[.string L.name.1, .slice ea L.elems.length ec, .slice ca L.covers.length cc, .int .i64 L.at_] 25) := ⟨_, rfl⟩
  rw [← hwb] at g0 b0
  obtain ⟨y0, y1, y2, y3⟩ := Box4.of g0
  go_enter Tryd.func6, Tryd.ntmps6
  go_wp2_with fail
  rw [← hwb]
  clear hwb y0 y1 y2 y3
  refine (head_any _ (hK.keep (keeps_below b0))).mono ?_
  rintro e w1 ⟨rfl, bN⟩
  replace g0 := block_keep g0 bN
  replace b0 := below_trans b0 bN
  clear bN
  obtain ⟨y0, y1, y2, y3⟩ := Box4.of g0
  go_wp2_with fail
  refine (Small_any _ L _ (h0.keep (keeps_below b0))).mono ?_
  rintro e w2 ⟨rfl, bN⟩
  replace g0 := block_keep g0 bN
  replace b0 := below_trans b0 bN
  clear bN y0 y1 y2 y3
  cases hsm : smallL L
  · go_wp2
    go_ret
    exact ⟨rfl, b0⟩
  clear hsm
  obtain ⟨y0, y1, y2, y3⟩ := Box4.of g0
  go_wp2_with fail
  refine (Check_any _ L _ (h0.keep (keeps_below b0)) (hK.keep (keeps_below b0))).mono ?_
  rintro e wB ⟨rfl, bN⟩
  replace g0 := block_keep g0 bN
  replace b0 := below_trans b0 bN
  clear bN y0 y1 y2 y3
  by_cases hck : checkL L = 0
  case neg =>
    have hq : (checkL L != 0) = true := by simpa using hck
    generalize checkL L = c at *
    go_wp2
    go_ret
    exact ⟨rfl, b0⟩
  have HCK := Lib.hid hck
  rw [hck]
  have hn8 := (args_parts (check_zero hck).1).1
  have hn1 := (args_parts (check_zero hck).1).2.1
  have HRG := Lib.hid (args_parts (check_zero hck).1).2.2.2
  have HLAT := Lib.hid (lat_ok hck)
  clear hck
  have bR := Below.refl wB.heap.size wB
  obtain ⟨y0, y1, y2, y3⟩ := Box4.of g0
  by_cases h60 : 60 < y.length
  · have hd60 : decide (60 < y.length) = true := decide_eq_true h60
    have hd60' : decide ((60 : Int) < (y.length : Int)) = true := decide_eq_true (by omega)
    go_wp2
    go_ret
    exact ⟨rfl, b0⟩
  have hd60' : decide ((60 : Int) < (y.length : Int)) = false := decide_eq_false (by omega)
  have hd60 : decide (60 < y.length) = false := decide_eq_false h60
  have hE0 : ((L.elems.length : Int) == 0) = false := beq_eq_false_iff_ne.2 (by omega)
  have hE1 : (L.elems.length == 0) = false := beq_eq_false_iff_ne.2 (by omega)
  have hy60 : (y.length : Int) ≤ 60 := by omega
  obtain ⟨z, hz, hzl⟩ := HLAT.out.lub_is (L := []) (by simp)
  have HZ := Lib.hid hz
  clear hz
  have bE1 := below_new wB (.cells #[] 3)
  have bE2 := below_new (wB.alloc (.cells #[] 3)) (.cells #[] 3)
  have o1 : OwnI ((wB.alloc (.cells #[] 3)).alloc (.cells #[] 3)) wB.heap.size (.slice (some ⟨wB.heap.size, 0, none⟩) 0 0) (castI (fwd L.elems.length y 0)) := (OwnI.lit wB [] (by decide)).keep bE2
  have o2 : OwnI ((wB.alloc (.cells #[] 3)).alloc (.cells #[] 3)) wB.heap.size (.slice (some ⟨wB.heap.size + 1, 0, none⟩) 0 0) (castI (bwd L.elems.length y 0)) := by
    have := OwnI.mono (OwnI.lit (wB.alloc (.cells #[] 3)) [] (by decide)) bE1.size
    rwa [show (wB.alloc (.cells #[] 3)).heap.size = wB.heap.size + 1 from by simp] at this
  have d0 : Dis (.slice (some ⟨wB.heap.size, 0, none⟩) 0 0) (.slice (some ⟨wB.heap.size + 1, 0, none⟩) 0 0) := by
    have := dis_lits wB 3
    rwa [show (wB.alloc (.cells #[] 3)).heap.size = wB.heap.size + 1 from by simp] at this
  have b00 := below_trans bE1 bE2
  obtain ⟨wa, hwa⟩ : ∃ x : World, x = (wB.alloc (.cells #[] 3)).alloc (.cells #[] 3) := ⟨_, rfl⟩
  rw [← hwa] at o1 o2 b00
  go_upto_region 6 with fail
  rw [← hwa]
  clear hwa bE1 bE2 bR
  obtain ⟨y0, y1, y2, y3⟩ := Box4.of (block_keep g0 b00)
  go_wp2_with fail
  refine (bot_at (h0.keep (keeps_below (below_trans b0 b00))) (hK.keep (keeps_below (below_trans b0 b00))) HCK).mono ?_
  rintro e wz ⟨rfl, bN⟩
  rw [HZ.out]
  replace o1 := o1.keep bN
  replace o2 := o2.keep bN
  replace b00 := below_trans b00 bN
  clear bN y0 y1 y2 y3
  go_wp2
  go_loopw [9, 6, 7, 8] (fun i lv bv av wr => ∃ k j : Nat, k ≤ y.length ∧ i = .int .i64 k ∧ OwnI wr wB.heap.size lv (castI (fwd L.elems.length y k)) ∧ OwnI wr wB.heap.size bv (castI (bwd L.elems.length y k)) ∧ Dis lv bv ∧ (∃ g, bv.ownBlock = some g) ∧ av = .int .i64 j ∧ Hid (IsLub L.elems.length (ordL L) (fwd L.elems.length y k) j) ∧ Below wB.heap.size wB wr) (fun i _ _ _ _ => y.length - (intOf i).toNat)
  case atStart => exact ⟨0, z, Nat.zero_le _, rfl, o1, o2, d0, ⟨_, rfl⟩, rfl, Lib.hid hzl, b00⟩
  case round =>
    clear o1 o2 d0 b00
    obtain ⟨k, j, hk, rfl, hF, hB, hD, ⟨gb, hgb⟩, rfl, HI, bR⟩ := hrel
    obtain ⟨wo, rfl⟩ : ∃ wo : World, wo = wr := ⟨_, rfl⟩
    obtain ⟨fa, fc, rfl⟩ := hF.len
    obtain ⟨bc, rfl⟩ := hB.some_of hgb
    have hfl : (castI (fwd L.elems.length y k)).length ≤ 1000000 := by rw [castI_length, fwd_len hk]; omega
    have hbl : (castI (bwd L.elems.length y k)).length ≤ 1000000 := by rw [castI_length, bwd_len hk]; omega
    have hsz := bR.size
    by_cases hlt : k < y.length
    · have hd : decide (k < y.length) = true := decide_eq_true hlt
      have HFS := Lib.hid (fwd_succ (n := L.elems.length) hlt)
      have HBS := Lib.hid (bwd_succ (n := L.elems.length) hlt)
      have hlr : y.length - 1 - k < y.length := by omega
      obtain ⟨b1, of1, hye, hc⟩ := hy0.at_ (List.getElem?_eq_getElem hlt)
      subst hye
      obtain ⟨b2, of2, hye, hc2⟩ := hy0.at_ (List.getElem?_eq_getElem hlr)
      cases hye
      generalize y[k] = c at *
      generalize y[y.length - 1 - k] = d at *
      obtain ⟨s, hs⟩ : ∃ s, y.length - 1 = s := ⟨_, rfl⟩
      rw [hs] at hlr hc2
      obtain ⟨r, hr⟩ : ∃ r, s - k = r := ⟨_, rfl⟩
      rw [hr] at hlr hc2
      have hsI : (y.length : Int) - 1 = (s : Int) := by omega
      have hrI : (s : Int) - (k : Int) = (r : Int) := by omega
      have hr0 : (0 : Int) ≤ (r : Int) := by omega
      have hrl : (r : Int) < (y.length : Int) := by omega
      have hkI : (k : Int) < (y.length : Int) := by omega
      have hk0 : (0 : Int) ≤ (k : Int) := by omega
      clear hr hs
      have hEn : (L.elems = []) = False := eq_false (by rintro h; rw [h] at hE0; simp at hE0)
      have hws : IntKind.i64.wrap (s : Int) = (s : Int) := by rw [IntKind.wrap_i64]; omega
      have hwr : IntKind.i64.wrap (r : Int) = (r : Int) := by rw [IntKind.wrap_i64]; omega
      have hcb : c.toNat < 256 := c.toNat_lt
      have hdb : d.toNat < 256 := d.toNat_lt
      have hwc : IntKind.i64.wrap (c.toNat : Int) = (c.toNat : Int) := by rw [IntKind.wrap_i64]; omega
      have hwd : IntKind.i64.wrap (d.toNat : Int) = (d.toNat : Int) := by rw [IntKind.wrap_i64]; omega
      have hmod : ((c.toNat : Int).tmod (L.elems.length : Int)) = ((c.toNat % L.elems.length : Nat) : Int) := rfl
      have hmod2 : ((d.toNat : Int).tmod (L.elems.length : Int)) = ((d.toNat % L.elems.length : Nat) : Int) := rfl
      have hqn : c.toNat % L.elems.length < L.elems.length := Nat.mod_lt _ (by omega)
      obtain ⟨q, hq⟩ : ∃ q, c.toNat % L.elems.length = q := ⟨_, rfl⟩
      obtain ⟨q2, hq2⟩ : ∃ q, d.toNat % L.elems.length = q := ⟨_, rfl⟩
      rw [hq] at hmod hqn HFS
      rw [hq2] at hmod2 HBS
      clear hq hq2
      have hwq : IntKind.i64.wrap (q : Int) = (q : Int) := by rw [IntKind.wrap_i64]; omega
      have hq2n : q2 < L.elems.length := by have : ((q2 : Nat) : Int) < (L.elems.length : Int) := by { rw [← hmod2]; exact Int.tmod_lt_of_pos _ (by omega) }; omega
      have hwq2 : IntKind.i64.wrap (q2 : Int) = (q2 : Int) := by rw [IntKind.wrap_i64]; omega
      obtain ⟨m, hm, hml⟩ := HLAT.out.join_is HI.out.1 hqn
      have HM := Lib.hid hm
      have HML := Lib.hid hml
      have hjn := HI.out.1
      clear hm hml
      have b0B : w.heap.size < wB.heap.size := block_lt g0
      have bwB := b0
      have KC := fun (p : Addr) (x : Value) (hx : w.cell? p = some x) (W : World) (hW : Below wB.heap.size wB W) => cell_keep (below_trans b0 hW) hx
      have HS1 : ∀ W, Below wB.heap.size wB W → (fun w' => w'.cell? ⟨w.heap.size, 1, none⟩ = some (.slice ea L.elems.length ec) ∧ w'.cell? ⟨b1, of1 + k, none⟩ = some (.int .u8 c.toNat)) W := fun W hW => ⟨(Box4.of (block_keep g0 hW)).c1, KC _ _ hc W hW⟩
      have HS2 : ∀ W, Below wB.heap.size wB W → (fun w' => w'.cell? ⟨w.heap.size, 1, none⟩ = some (.slice ea L.elems.length ec) ∧ w'.cell? ⟨b1, of1 + r, none⟩ = some (.int .u8 d.toNat)) W := fun W hW => ⟨(Box4.of (block_keep g0 hW)).c1, KC _ _ hc2 W hW⟩
      clear KC
      go_upto_region 10 with fail
      go_cut [6] from 41 to 52 (fun v6 wx => OwnI wx wB.heap.size v6 (castI (fwd L.elems.length y (k + 1))) ∧ OwnI wx wB.heap.size (.slice (some ⟨gb, 0, none⟩) (castI (bwd L.elems.length y k)).length bc) (castI (bwd L.elems.length y k)) ∧ Dis v6 (.slice (some ⟨gb, 0, none⟩) (castI (bwd L.elems.length y k)).length bc) ∧ Below wB.heap.size wB wx)
      case first =>
        refine wp_region_noPanic ?_
        refine wp_region_late (fun w' => w'.cell? ⟨w.heap.size, 1, none⟩ = some (.slice ea L.elems.length ec) ∧ w'.cell? ⟨b1, of1 + k, none⟩ = some (.int .u8 c.toNat)) 13 (by kernel_rfl) (HS1 _ (below_drew' bR)) (fun hHeld => ?_)
        refine any_take (by kernel_rfl) (i := 0) (oi := _) (v := ?_) rfl rfl (by kernel_rfl) (by kernel_rfl) (by kernel_rfl) (fun _ _ _ h => h) (Or.inl ⟨by rfl, ?_⟩) hHeld ?_
        rotate_left
        · intro w' hSw; try dsimp only at hSw
          go_simp
          try with_reducible rfl
        try simp only [puts, gets]
        refine any_take (by kernel_rfl) (i := 1) (oi := _) (v := ?_) rfl rfl (by kernel_rfl) (by kernel_rfl) (by kernel_rfl) (fun _ _ _ h => h) (Or.inl ⟨by rfl, ?_⟩) hHeld ?_
        rotate_left
        · intro w' hSw; try dsimp only at hSw
          go_simp
          try with_reducible rfl
        try simp only [puts, gets]
        refine any_take (by kernel_rfl) (i := 2) (oi := _) (v := ?_) rfl rfl (by kernel_rfl) (by kernel_rfl) (by kernel_rfl) (fun _ _ _ h => h) (Or.inl ⟨by rfl, ?_⟩) hHeld ?_
        rotate_left
        · intro w' hSw; try dsimp only at hSw
          go_simp
          try with_reducible rfl
        try simp only [puts, gets]
        refine any_take (by kernel_rfl) (i := 3) (oi := _) (v := ?_) rfl rfl (by kernel_rfl) (by kernel_rfl) (by kernel_rfl) (fun _ _ _ h => h) (Or.inl ⟨by rfl, ?_⟩) hHeld ?_
        rotate_left
        · intro w' hSw; try dsimp only at hSw
          go_simp
          try with_reducible rfl
        try simp only [puts, gets]
        refine any_take (by kernel_rfl) (i := 4) (oi := _) (v := ?_) rfl rfl (by kernel_rfl) (by kernel_rfl) (by kernel_rfl) (fun _ _ _ h => h) (Or.inl ⟨by rfl, ?_⟩) hHeld ?_
        rotate_left
        · intro w' hSw; try dsimp only at hSw
          go_simp
          try with_reducible rfl
        try simp only [puts, gets]
        refine any_take (by kernel_rfl) (i := 5) (oi := _) (v := ?_) rfl rfl (by kernel_rfl) (by kernel_rfl) (by kernel_rfl) (fun _ _ _ h => h) (Or.inl ⟨by rfl, ?_⟩) hHeld ?_
        rotate_left
        · intro w' hSw; try dsimp only at hSw
          go_simp
          try with_reducible rfl
        try simp only [puts, gets]
        refine any_take (by kernel_rfl) (i := 6) (oi := _) (v := ?_) rfl rfl (by kernel_rfl) (by kernel_rfl) (by kernel_rfl) (fun _ _ _ h => h) (Or.inl ⟨by rfl, ?_⟩) hHeld ?_
        rotate_left
        · intro w' hSw; try dsimp only at hSw
          go_simp
          try with_reducible rfl
        try simp only [puts, gets]
        refine any_take (by kernel_rfl) (i := 7) (oi := _) (v := ?_) rfl rfl (by kernel_rfl) (by kernel_rfl) (by kernel_rfl) (fun _ _ _ h => h) (Or.inl ⟨by rfl, ?_⟩) hHeld ?_
        rotate_left
        · intro w' hSw; try dsimp only at hSw
          go_simp
          try with_reducible rfl
        try simp only [puts, gets]
        refine any_take (by kernel_rfl) (i := 8) (oi := _) (v := ?_) rfl rfl (by kernel_rfl) (by kernel_rfl) (by kernel_rfl) (fun _ _ _ h => h) (Or.inl ⟨by rfl, ?_⟩) hHeld ?_
        rotate_left
        · intro w' hSw; try dsimp only at hSw
          go_simp
          try with_reducible rfl
        try simp only [puts, gets]
        refine any_take (by kernel_rfl) (i := 9) (oi := _) (v := ?_) rfl rfl (by kernel_rfl) (by kernel_rfl) (by kernel_rfl) (fun _ _ _ h => h) (Or.inl ⟨by rfl, ?_⟩) hHeld ?_
        rotate_left
        · intro w' hSw; try dsimp only at hSw
          go_simp
          try with_reducible rfl
        try simp only [puts, gets]
        refine any_next (i := 10) (by kernel_rfl) rfl rfl (fun K hK => ?_)
        go_simp
        refine hK.out _ _ ?_ (fun hHeld => ?_)
        · first | exact HS1 _ (below_trans bR (below_alloc' (below_drew' (Below.refl _ _)))) | exact HS1 _ (below_trans bR (below_drew' (below_alloc' (Below.refl _ _)))) | exact HS1 _ (bR.drew.alloc bR.size _) | exact HS1 _ (bR.alloc bR.size _).drew
        clear hK K
        try simp only [puts, gets]
        refine any_next (i := 11) (by kernel_rfl) rfl rfl (fun K hK => ?_)
        refine step_pushJ (wr := wo) (x := (q : Int)) (g1 := wo.heap.size) rfl (.tmp 41) (.tmp 51) (by rfl) (by rfl) (by rfl) hF (below_alloc' (below_drew' (Below.refl _ _))) (heap_alloc_new wo.drew _) hsz hfl ?_
        intro g1 cap1 w8 hF8 b8 hg8 hd8
        refine hK.out _ _ ?_ (fun hHeld => ?_)
        · exact HS1 _ (bR.trans b8)
        clear hK K
        try simp only [puts, gets]
        refine any_take (by kernel_rfl) (i := 12) (oi := _) (v := ?_) rfl rfl (by kernel_rfl) (by kernel_rfl) (by kernel_rfl) (fun _ _ _ h => h) (Or.inl ⟨by rfl, ?_⟩) hHeld ?_
        rotate_left
        · intro w' hSw; try dsimp only at hSw
          go_simp
          try with_reducible rfl
        try simp only [puts, gets]
        refine any_done (by kernel_rfl) ?_ _
        refine NoPanic.normal ?_
        have hB8 := hB.kept hg8 (fun k hk e => hD k e hk)
        have hD8 := Dis.pushed (n := (castI (fwd L.elems.length y k)).length + 1) (c := cap1) hD hB hd8
        rw [← castI_snoc] at hF8
        have b08 := bR.trans b8
        go_wp2
        go_meet
        case rel => exact ⟨by rw [HFS.out]; simpa [castI_length] using hF8, hB8, hD8, b08⟩
      case rest =>
        obtain ⟨hF8, hB8, hD8, b08⟩ := hcut
        obtain ⟨wx, rfl⟩ : ∃ wx : World, wx = wc := ⟨_, rfl⟩
        obtain ⟨ga, ca8, rfl⟩ := hF8.len
        have hsz8 := b08.size
        clear hF hB HS1 hc
        go_upto_region 11 with fail
        go_cut [7] from 53 to 68 (fun v7 wy => OwnI wy wB.heap.size (.slice ga (castI (fwd L.elems.length y (k + 1))).length ca8) (castI (fwd L.elems.length y (k + 1))) ∧ OwnI wy wB.heap.size v7 (castI (bwd L.elems.length y (k + 1))) ∧ Dis (.slice ga (castI (fwd L.elems.length y (k + 1))).length ca8) v7 ∧ (∃ g, v7.ownBlock = some g) ∧ Below wB.heap.size wB wy)
        case first =>
          refine wp_region_noPanic ?_
          refine wp_region_late (fun w' => w'.cell? ⟨w.heap.size, 1, none⟩ = some (.slice ea L.elems.length ec) ∧ w'.cell? ⟨b1, of1 + r, none⟩ = some (.int .u8 d.toNat)) 17 (by kernel_rfl) (HS2 _ (below_drew' b08)) (fun hHeld => ?_)
          refine any_take (by kernel_rfl) (i := 0) (oi := _) (v := ?_) rfl rfl (by kernel_rfl) (by kernel_rfl) (by kernel_rfl) (fun _ _ _ h => h) (Or.inl ⟨by rfl, ?_⟩) hHeld ?_
          rotate_left
          · intro w' hSw; try dsimp only at hSw
            go_simp
            try with_reducible rfl
          try simp only [puts, gets]
          refine any_take (by kernel_rfl) (i := 1) (oi := _) (v := ?_) rfl rfl (by kernel_rfl) (by kernel_rfl) (by kernel_rfl) (fun _ _ _ h => h) (Or.inl ⟨by rfl, ?_⟩) hHeld ?_
          rotate_left
          · intro w' hSw; try dsimp only at hSw
            go_simp
            try with_reducible rfl
          try simp only [puts, gets]
          refine any_take (by kernel_rfl) (i := 2) (oi := _) (v := ?_) rfl rfl (by kernel_rfl) (by kernel_rfl) (by kernel_rfl) (fun _ _ _ h => h) (Or.inl ⟨by rfl, ?_⟩) hHeld ?_
          rotate_left
          · intro w' hSw; try dsimp only at hSw
            go_simp
            try with_reducible rfl
          try simp only [puts, gets]
          refine any_take (by kernel_rfl) (i := 3) (oi := _) (v := ?_) rfl rfl (by kernel_rfl) (by kernel_rfl) (by kernel_rfl) (fun _ _ _ h => h) (Or.inl ⟨by rfl, ?_⟩) hHeld ?_
          rotate_left
          · intro w' hSw; try dsimp only at hSw
            go_simp
            try with_reducible rfl
          try simp only [puts, gets]
          refine any_take (by kernel_rfl) (i := 4) (oi := _) (v := ?_) rfl rfl (by kernel_rfl) (by kernel_rfl) (by kernel_rfl) (fun _ _ _ h => h) (Or.inl ⟨by rfl, ?_⟩) hHeld ?_
          rotate_left
          · intro w' hSw; try dsimp only at hSw
            go_simp
            try with_reducible rfl
          try simp only [puts, gets]
          refine any_take (by kernel_rfl) (i := 5) (oi := _) (v := ?_) rfl rfl (by kernel_rfl) (by kernel_rfl) (by kernel_rfl) (fun _ _ _ h => h) (Or.inl ⟨by rfl, ?_⟩) hHeld ?_
          rotate_left
          · intro w' hSw; try dsimp only at hSw
            go_simp
            try with_reducible rfl
          try simp only [puts, gets]
          refine any_take (by kernel_rfl) (i := 6) (oi := _) (v := ?_) rfl rfl (by kernel_rfl) (by kernel_rfl) (by kernel_rfl) (fun _ _ _ h => h) (Or.inl ⟨by rfl, ?_⟩) hHeld ?_
          rotate_left
          · intro w' hSw; try dsimp only at hSw
            go_simp
            try with_reducible rfl
          try simp only [puts, gets]
          refine any_take (by kernel_rfl) (i := 7) (oi := _) (v := ?_) rfl rfl (by kernel_rfl) (by kernel_rfl) (by kernel_rfl) (fun _ _ _ h => h) (Or.inl ⟨by rfl, ?_⟩) hHeld ?_
          rotate_left
          · intro w' hSw; try dsimp only at hSw
            go_simp
            try with_reducible rfl
          try simp only [puts, gets]
          refine any_take (by kernel_rfl) (i := 8) (oi := _) (v := ?_) rfl rfl (by kernel_rfl) (by kernel_rfl) (by kernel_rfl) (fun _ _ _ h => h) (Or.inl ⟨by rfl, ?_⟩) hHeld ?_
          rotate_left
          · intro w' hSw; try dsimp only at hSw
            go_simp
            try with_reducible rfl
          try simp only [puts, gets]
          refine any_take (by kernel_rfl) (i := 9) (oi := _) (v := ?_) rfl rfl (by kernel_rfl) (by kernel_rfl) (by kernel_rfl) (fun _ _ _ h => h) (Or.inl ⟨by rfl, ?_⟩) hHeld ?_
          rotate_left
          · intro w' hSw; try dsimp only at hSw
            go_simp
            try with_reducible rfl
          try simp only [puts, gets]
          refine any_take (by kernel_rfl) (i := 10) (oi := _) (v := ?_) rfl rfl (by kernel_rfl) (by kernel_rfl) (by kernel_rfl) (fun _ _ _ h => h) (Or.inl ⟨by rfl, ?_⟩) hHeld ?_
          rotate_left
          · intro w' hSw; try dsimp only at hSw
            go_simp
            try with_reducible rfl
          try simp only [puts, gets]
          refine any_take (by kernel_rfl) (i := 11) (oi := _) (v := ?_) rfl rfl (by kernel_rfl) (by kernel_rfl) (by kernel_rfl) (fun _ _ _ h => h) (Or.inl ⟨by rfl, ?_⟩) hHeld ?_
          rotate_left
          · intro w' hSw; try dsimp only at hSw
            go_simp
            try with_reducible rfl
          try simp only [puts, gets]
          refine any_take (by kernel_rfl) (i := 12) (oi := _) (v := ?_) rfl rfl (by kernel_rfl) (by kernel_rfl) (by kernel_rfl) (fun _ _ _ h => h) (Or.inl ⟨by rfl, ?_⟩) hHeld ?_
          rotate_left
          · intro w' hSw; try dsimp only at hSw
            go_simp
            try with_reducible rfl
          try simp only [puts, gets]
          refine any_take (by kernel_rfl) (i := 13) (oi := _) (v := ?_) rfl rfl (by kernel_rfl) (by kernel_rfl) (by kernel_rfl) (fun _ _ _ h => h) (Or.inl ⟨by rfl, ?_⟩) hHeld ?_
          rotate_left
          · intro w' hSw; try dsimp only at hSw
            go_simp
            try with_reducible rfl
          try simp only [puts, gets]
          refine any_next (i := 14) (by kernel_rfl) rfl rfl (fun K hK => ?_)
          go_simp
          refine hK.out _ _ ?_ (fun hHeld => ?_)
          · first | exact HS2 _ (below_trans b08 (below_alloc' (below_drew' (Below.refl _ _)))) | exact HS2 _ (below_trans b08 (below_drew' (below_alloc' (Below.refl _ _)))) | exact HS2 _ (b08.drew.alloc b08.size _) | exact HS2 _ (b08.alloc b08.size _).drew
          clear hK K
          try simp only [puts, gets]
          refine any_next (i := 15) (by kernel_rfl) rfl rfl (fun K hK => ?_)
          refine step_pushJ (wr := wx) (x := (q2 : Int)) (g1 := wx.heap.size) rfl (.tmp 53) (.tmp 67) (by rfl) (by rfl) (by rfl) hB8 (below_alloc' (below_drew' (Below.refl _ _))) (heap_alloc_new wx.drew _) hsz8 hbl ?_
          intro g2 cap2 w9 hB9 b9 hg9 hd9
          refine hK.out _ _ ?_ (fun hHeld => ?_)
          · exact HS2 _ (b08.trans b9)
          clear hK K
          try simp only [puts, gets]
          refine any_take (by kernel_rfl) (i := 16) (oi := _) (v := ?_) rfl rfl (by kernel_rfl) (by kernel_rfl) (by kernel_rfl) (fun _ _ _ h => h) (Or.inl ⟨by rfl, ?_⟩) hHeld ?_
          rotate_left
          · intro w' hSw; try dsimp only at hSw
            go_simp
            try with_reducible rfl
          try simp only [puts, gets]
          refine any_done (by kernel_rfl) ?_ _
          refine NoPanic.normal ?_
          have hF9 := hF8.kept hg9 (fun k hk e => hD8 k hk e)
          have hD9 := (Dis.pushed (n := (castI (bwd L.elems.length y k)).length + 1) (c := cap2) hD8.symm hF8 hd9).symm
          rw [← castI_snoc] at hB9
          have b09 := b08.trans b9
          go_wp2
          go_meet
          case rel => exact ⟨hF9, by rw [HBS.out]; simpa [castI_length] using hB9, hD9, ⟨_, rfl⟩, b09⟩
        case rest =>
          obtain ⟨hF9, hB9, hD9, ⟨g9, hg9⟩, b09⟩ := hcut
          obtain ⟨wy, rfl⟩ : ∃ wy : World, wy = wc := ⟨_, rfl⟩
          obtain ⟨c9, rfl⟩ := hB9.some_of hg9
          clear hF8 hB8 hD8 b08 HS2 hc2 bR
          have hFI := hF9.is (by rw [castI_length, fwd_len (by omega)]; omega)
          have hfl9 : (castI (fwd L.elems.length y (k + 1))).length = k + 1 := by rw [castI_length, fwd_len (by omega)]
          have hcr : (castI (fwd L.elems.length y (k + 1)))[k]? = some (q : Int) := by rw [HFS.out, castI_snoc, List.getElem?_append_right (by rw [castI_length, fwd_len (by omega)]; omega), castI_length, fwd_len (by omega)]; simp
          obtain ⟨b3, of3, hge, hc3⟩ := hFI.at_ hcr
          subst hge
          have hkF : (k : Int) < ((castI (fwd L.elems.length y (k + 1))).length : Int) := by omega
          clear hcr hFI hfl9
          have HAL := Lib.hid (fun W (hW : Below wy.heap.size wy W) => (⟨h0.keep (keeps_below (below_trans b0 (b09.trans (hW.mono b09.size)))), hK.keep (keeps_below (below_trans b0 (b09.trans (hW.mono b09.size))))⟩ : IsLtc W _ L ∧ KeysAt W 0))
          have HS3 : ∀ W, Below wy.heap.size wy W → (fun w' => w'.cell? ⟨w.heap.size, 0, none⟩ = some (.string L.name.1) ∧ w'.cell? ⟨w.heap.size, 1, none⟩ = some (.slice ea L.elems.length ec) ∧ w'.cell? ⟨w.heap.size, 2, none⟩ = some (.slice ca L.covers.length cc) ∧ w'.cell? ⟨w.heap.size, 3, none⟩ = some (.int .i64 L.at_) ∧ w'.cell? ⟨b3, of3 + k, none⟩ = some (.int .i64 q)) W := fun W hW => ⟨(Box4.of (block_keep g0 (b09.trans (hW.mono b09.size)))).c0, (Box4.of (block_keep g0 (b09.trans (hW.mono b09.size)))).c1, (Box4.of (block_keep g0 (b09.trans (hW.mono b09.size)))).c2, (Box4.of (block_keep g0 (b09.trans (hW.mono b09.size)))).c3, cell_keep hW hc3⟩
          go_upto_region 12 with fail
          refine wp_region_noPanic ?_
          refine wp_region_late (fun w' => w'.cell? ⟨w.heap.size, 0, none⟩ = some (.string L.name.1) ∧ w'.cell? ⟨w.heap.size, 1, none⟩ = some (.slice ea L.elems.length ec) ∧ w'.cell? ⟨w.heap.size, 2, none⟩ = some (.slice ca L.covers.length cc) ∧ w'.cell? ⟨w.heap.size, 3, none⟩ = some (.int .i64 L.at_) ∧ w'.cell? ⟨b3, of3 + k, none⟩ = some (.int .i64 q)) 8 (by kernel_rfl) (HS3 _ (below_drew' (Below.refl _ _))) (fun hHeld => ?_)
          refine any_take (by kernel_rfl) (i := 0) (oi := _) (v := ?_) rfl rfl (by kernel_rfl) (by kernel_rfl) (by kernel_rfl) (fun _ _ _ h => h) (Or.inl ⟨by rfl, ?_⟩) hHeld ?_
          rotate_left
          · intro w' hSw; try dsimp only at hSw
            go_simp
            try with_reducible rfl
          try simp only [puts, gets]
          refine any_take (by kernel_rfl) (i := 1) (oi := _) (v := ?_) rfl rfl (by kernel_rfl) (by kernel_rfl) (by kernel_rfl) (fun _ _ _ h => h) (Or.inl ⟨by rfl, ?_⟩) hHeld ?_
          rotate_left
          · intro w' hSw; try dsimp only at hSw
            go_simp
            try with_reducible rfl
          try simp only [puts, gets]
          refine any_take (by kernel_rfl) (i := 2) (oi := _) (v := ?_) rfl rfl (by kernel_rfl) (by kernel_rfl) (by kernel_rfl) (fun _ _ _ h => h) (Or.inl ⟨by rfl, ?_⟩) hHeld ?_
          rotate_left
          · intro w' hSw; try dsimp only at hSw
            go_simp
            try with_reducible rfl
          try simp only [puts, gets]
          refine any_take (by kernel_rfl) (i := 3) (oi := _) (v := ?_) rfl rfl (by kernel_rfl) (by kernel_rfl) (by kernel_rfl) (fun _ _ _ h => h) (Or.inl ⟨by rfl, ?_⟩) hHeld ?_
          rotate_left
          · intro w' hSw; try dsimp only at hSw
            go_simp
            try with_reducible rfl
          try simp only [puts, gets]
          refine any_take (by kernel_rfl) (i := 4) (oi := _) (v := ?_) rfl rfl (by kernel_rfl) (by kernel_rfl) (by kernel_rfl) (fun _ _ _ h => h) (Or.inl ⟨by rfl, ?_⟩) hHeld ?_
          rotate_left
          · intro w' hSw; try dsimp only at hSw
            go_simp
            try with_reducible rfl
          try simp only [puts, gets]
          refine any_take (by kernel_rfl) (i := 5) (oi := _) (v := ?_) rfl rfl (by kernel_rfl) (by kernel_rfl) (by kernel_rfl) (fun _ _ _ h => h) (Or.inl ⟨by rfl, ?_⟩) hHeld ?_
          rotate_left
          · intro w' hSw; try dsimp only at hSw
            go_simp
            try with_reducible rfl
          try simp only [puts, gets]
          refine any_next (i := 6) (by kernel_rfl) rfl rfl (fun K hK => ?_)
          go_simp
          go_at_call 16
          refine join_ts HCK (HAL.out _ (below_drew' (Below.refl _ _))) hjn hqn HM ?_
          intro wq1 bq1
          replace bq1 : Below wy.heap.size wy wq1 := below_undrew bq1
          refine hK.out _ _ ?_ (fun hHeld => ?_)
          · exact HS3 _ bq1
          clear hK K
          try simp only [puts, gets]
          refine any_take (by kernel_rfl) (i := 7) (oi := _) (v := ?_) rfl rfl (by kernel_rfl) (by kernel_rfl) (by kernel_rfl) (fun _ _ _ h => h) (Or.inl ⟨by rfl, ?_⟩) hHeld ?_
          rotate_left
          · intro w' hSw; try dsimp only at hSw
            go_simp
            try with_reducible rfl
          try simp only [puts, gets]
          refine any_done (by kernel_rfl) ?_ _
          refine NoPanic.normal ?_
          go_wp2
          go_roundw
          case rel => exact ⟨k + 1, m, by omega, by go_num, hF9.keep bq1, hB9.keep bq1, hD9, ⟨_, rfl⟩, rfl, Lib.hid (by rw [HFS.out]; exact HLAT.out.lub_snoc HI.out HML.out), b09.trans (bq1.mono b09.size)⟩
          case measure => simp [intOf]; omega
    · have e : k = y.length := by omega
      subst e
      have hd : decide (y.length < y.length) = false := decide_eq_false hlt
      have hFN := Lib.hid (fwd_lt (n := L.elems.length) (y := y) (k := y.length) (by omega))
      have hBN := Lib.hid (bwd_lt (n := L.elems.length) (y := y) (k := y.length) (by omega))
      have hCN := Lib.hid (show ∀ a ∈ fwd L.elems.length y y.length ++ bwd L.elems.length y y.length, a < L.elems.length from fun a ha => (List.mem_append.1 ha).elim (hFN.out a) (hBN.out a))
      have HLF := Lib.hid (HLAT.out.lub_eq HI.out)
      have HLB := Lib.hid ((lub_same bwd_same : lub L.elems.length (ordL L) (bwd L.elems.length y y.length) = lub L.elems.length (ordL L) (fwd L.elems.length y y.length)).trans HLF.out)
      have HLC := Lib.hid ((lub_same (fun a => by rw [List.mem_append, bwd_same]; exact or_self_iff) : lub L.elems.length (ordL L) (fwd L.elems.length y y.length ++ bwd L.elems.length y y.length) = lub L.elems.length (ordL L) (fwd L.elems.length y y.length)).trans HLF.out)
      have hFI := Lib.hid (fun W (hW : Below wo.heap.size wo W) => (hF.is (by omega)).keep (keeps_below hW))
      have hBI := Lib.hid (fun W (hW : Below wo.heap.size wo W) => (hB.is (by omega)).keep (keeps_below hW))
      have HAL := Lib.hid (fun W (hW : Below wB.heap.size wB W) => (⟨h0.keep (keeps_below (below_trans b0 hW)), hK.keep (keeps_below (below_trans b0 hW))⟩ : IsLtc W _ L ∧ KeysAt W 0))
      have HS4 : ∀ W, Below wB.heap.size wB W → (fun w' => w'.cell? ⟨w.heap.size, 0, none⟩ = some (.string L.name.1) ∧ w'.cell? ⟨w.heap.size, 1, none⟩ = some (.slice ea L.elems.length ec) ∧ w'.cell? ⟨w.heap.size, 2, none⟩ = some (.slice ca L.covers.length cc) ∧ w'.cell? ⟨w.heap.size, 3, none⟩ = some (.int .i64 L.at_)) W := fun W hW => ⟨(Box4.of (block_keep g0 hW)).c0, (Box4.of (block_keep g0 hW)).c1, (Box4.of (block_keep g0 hW)).c2, (Box4.of (block_keep g0 hW)).c3⟩
      go_upto_region 13 with fail
      refine wp_region_noPanic ?_
      refine wp_region_late (fun w' => w'.cell? ⟨w.heap.size, 0, none⟩ = some (.string L.name.1) ∧ w'.cell? ⟨w.heap.size, 1, none⟩ = some (.slice ea L.elems.length ec) ∧ w'.cell? ⟨w.heap.size, 2, none⟩ = some (.slice ca L.covers.length cc) ∧ w'.cell? ⟨w.heap.size, 3, none⟩ = some (.int .i64 L.at_)) 25 (by kernel_rfl) (HS4 _ (below_drew' bR)) (fun hHeld => ?_)
      refine any_take (by kernel_rfl) (i := 0) (oi := _) (v := ?_) rfl rfl (by kernel_rfl) (by kernel_rfl) (by kernel_rfl) (fun _ _ _ h => h) (Or.inl ⟨by rfl, ?_⟩) hHeld ?_
      rotate_left
      · intro w' hSw; try dsimp only at hSw
        go_simp
        try with_reducible rfl
      try simp only [puts, gets]
      refine any_take (by kernel_rfl) (i := 1) (oi := _) (v := ?_) rfl rfl (by kernel_rfl) (by kernel_rfl) (by kernel_rfl) (fun _ _ _ h => h) (Or.inl ⟨by rfl, ?_⟩) hHeld ?_
      rotate_left
      · intro w' hSw; try dsimp only at hSw
        go_simp
        try with_reducible rfl
      try simp only [puts, gets]
      refine any_take (by kernel_rfl) (i := 2) (oi := _) (v := ?_) rfl rfl (by kernel_rfl) (by kernel_rfl) (by kernel_rfl) (fun _ _ _ h => h) (Or.inl ⟨by rfl, ?_⟩) hHeld ?_
      rotate_left
      · intro w' hSw; try dsimp only at hSw
        go_simp
        try with_reducible rfl
      try simp only [puts, gets]
      refine any_take (by kernel_rfl) (i := 3) (oi := _) (v := ?_) rfl rfl (by kernel_rfl) (by kernel_rfl) (by kernel_rfl) (fun _ _ _ h => h) (Or.inl ⟨by rfl, ?_⟩) hHeld ?_
      rotate_left
      · intro w' hSw; try dsimp only at hSw
        go_simp
        try with_reducible rfl
      try simp only [puts, gets]
      refine any_take (by kernel_rfl) (i := 5) (oi := _) (v := ?_) rfl rfl (by kernel_rfl) (by kernel_rfl) (by kernel_rfl) (fun _ _ _ h => h) (Or.inl ⟨by rfl, ?_⟩) hHeld ?_
      rotate_left
      · intro w' hSw; try dsimp only at hSw
        go_simp
        try with_reducible rfl
      try simp only [puts, gets]
      refine any_next (i := 4) (by kernel_rfl) rfl rfl (fun K hK => ?_)
      go_simp
      go_at_call 18
      refine lub_ts HCK (HAL.out _ (below_drew' bR)) (hFI.out _ (below_drew' (Below.refl _ _))) hFN HLF ?_
      intro wq1 bq1
      replace bq1 : Below wo.heap.size wo wq1 := below_undrew bq1
      refine hK.out _ _ ?_ (fun hHeld => ?_)
      · exact HS4 _ (bR.trans (bq1.mono hsz))
      clear hK K
      try simp only [puts, gets]
      refine any_take (by kernel_rfl) (i := 6) (oi := _) (v := ?_) rfl rfl (by kernel_rfl) (by kernel_rfl) (by kernel_rfl) (fun _ _ _ h => h) (Or.inl ⟨by rfl, ?_⟩) hHeld ?_
      rotate_left
      · intro w' hSw; try dsimp only at hSw
        go_simp
        try with_reducible rfl
      try simp only [puts, gets]
      refine any_take (by kernel_rfl) (i := 7) (oi := _) (v := ?_) rfl rfl (by kernel_rfl) (by kernel_rfl) (by kernel_rfl) (fun _ _ _ h => h) (Or.inl ⟨by rfl, ?_⟩) hHeld ?_
      rotate_left
      · intro w' hSw; try dsimp only at hSw
        go_simp
        try with_reducible rfl
      try simp only [puts, gets]
      refine any_take (by kernel_rfl) (i := 8) (oi := _) (v := ?_) rfl rfl (by kernel_rfl) (by kernel_rfl) (by kernel_rfl) (fun _ _ _ h => h) (Or.inl ⟨by rfl, ?_⟩) hHeld ?_
      rotate_left
      · intro w' hSw; try dsimp only at hSw
        go_simp
        try with_reducible rfl
      try simp only [puts, gets]
      refine any_take (by kernel_rfl) (i := 9) (oi := _) (v := ?_) rfl rfl (by kernel_rfl) (by kernel_rfl) (by kernel_rfl) (fun _ _ _ h => h) (Or.inl ⟨by rfl, ?_⟩) hHeld ?_
      rotate_left
      · intro w' hSw; try dsimp only at hSw
        go_simp
        try with_reducible rfl
      try simp only [puts, gets]
      refine any_take (by kernel_rfl) (i := 10) (oi := _) (v := ?_) rfl rfl (by kernel_rfl) (by kernel_rfl) (by kernel_rfl) (fun _ _ _ h => h) (Or.inl ⟨by rfl, ?_⟩) hHeld ?_
      rotate_left
      · intro w' hSw; try dsimp only at hSw
        go_simp
        try with_reducible rfl
      try simp only [puts, gets]
      refine any_take (by kernel_rfl) (i := 12) (oi := _) (v := ?_) rfl rfl (by kernel_rfl) (by kernel_rfl) (by kernel_rfl) (fun _ _ _ h => h) (Or.inl ⟨by rfl, ?_⟩) hHeld ?_
      rotate_left
      · intro w' hSw; try dsimp only at hSw
        go_simp
        try with_reducible rfl
      try simp only [puts, gets]
      refine any_next (i := 11) (by kernel_rfl) rfl rfl (fun K hK => ?_)
      go_simp
      go_at_call 18
      refine lub_ts HCK (HAL.out _ (below_trans bR bq1)) (hBI.out _ bq1) hBN HLB ?_
      intro wq2 bq2
      have bq12 := below_trans bq1 bq2
      refine hK.out _ _ ?_ (fun hHeld => ?_)
      · exact HS4 _ (bR.trans (bq12.mono hsz))
      clear hK K
      try simp only [puts, gets]
      refine any_take (by kernel_rfl) (i := 13) (oi := _) (v := ?_) rfl rfl (by kernel_rfl) (by kernel_rfl) (by kernel_rfl) (fun _ _ _ h => h) (Or.inl ⟨by rfl, ?_⟩) hHeld ?_
      rotate_left
      · intro w' hSw; try dsimp only at hSw
        go_simp
        try with_reducible rfl
      try simp only [puts, gets]
      refine any_take (by kernel_rfl) (i := 14) (oi := _) (v := ?_) rfl rfl (by kernel_rfl) (by kernel_rfl) (by kernel_rfl) (fun _ _ _ h => h) (Or.inl ⟨by rfl, ?_⟩) hHeld ?_
      rotate_left
      · intro w' hSw; try dsimp only at hSw
        go_simp
        try with_reducible rfl
      try simp only [puts, gets]
      refine any_take (by kernel_rfl) (i := 15) (oi := _) (v := ?_) rfl rfl (by kernel_rfl) (by kernel_rfl) (by kernel_rfl) (fun _ _ _ h => h) (Or.inl ⟨by rfl, ?_⟩) hHeld ?_
      rotate_left
      · intro w' hSw; try dsimp only at hSw
        go_simp
        try with_reducible rfl
      try simp only [puts, gets]
      refine any_take (by kernel_rfl) (i := 16) (oi := _) (v := ?_) rfl rfl (by kernel_rfl) (by kernel_rfl) (by kernel_rfl) (fun _ _ _ h => h) (Or.inl ⟨by rfl, ?_⟩) hHeld ?_
      rotate_left
      · intro w' hSw; try dsimp only at hSw
        go_simp
        try with_reducible rfl
      try simp only [puts, gets]
      refine any_take (by kernel_rfl) (i := 17) (oi := _) (v := ?_) rfl rfl (by kernel_rfl) (by kernel_rfl) (by kernel_rfl) (fun _ _ _ h => h) (Or.inl ⟨by rfl, ?_⟩) hHeld ?_
      rotate_left
      · intro w' hSw; try dsimp only at hSw
        go_simp
        try with_reducible rfl
      try simp only [puts, gets]
      refine any_take (by kernel_rfl) (i := 18) (oi := _) (v := ?_) rfl rfl (by kernel_rfl) (by kernel_rfl) (by kernel_rfl) (fun _ _ _ h => h) (Or.inl ⟨by rfl, ?_⟩) hHeld ?_
      rotate_left
      · intro w' hSw; try dsimp only at hSw
        go_simp
        try with_reducible rfl
      try simp only [puts, gets]
      refine any_take (by kernel_rfl) (i := 21) (oi := _) (v := ?_) rfl rfl (by kernel_rfl) (by kernel_rfl) (by kernel_rfl) (fun _ _ _ h => h) (Or.inl ⟨by rfl, ?_⟩) hHeld ?_
      rotate_left
      · intro w' hSw; try dsimp only at hSw
        go_simp
        try with_reducible rfl
      try simp only [puts, gets]
      refine any_next (i := 19) (by kernel_rfl) rfl rfl (fun K hK => ?_)
      refine step_catJ (wr := wo) (by rfl) (.tmp 93) (.tmp 94) (by rfl) (by rfl) (by rfl) hF bq12 (hBI.out _ bq12) hsz hfl hbl ?_
      intro v95 wq3 hC3 bq3
      have bB3 := bR.trans bq3
      have hCI := hC3.is (by rw [List.length_append]; omega)
      rw [← castI_append] at hCI
      refine hK.out _ _ ?_ (fun hHeld => ?_)
      · exact HS4 _ bB3
      clear hK K
      try simp only [puts, gets]
      refine any_next (i := 20) (by kernel_rfl) rfl rfl (fun K hK => ?_)
      go_simp
      go_at_call 18
      refine lub_ts HCK (HAL.out _ bB3) hCI hCN HLC ?_
      intro wq4 bq4
      have bB4 := bB3.trans (bq4.mono bB3.size)
      refine hK.out _ _ ?_ (fun hHeld => ?_)
      · exact HS4 _ bB4
      clear hK K
      try simp only [puts, gets]
      refine any_take (by kernel_rfl) (i := 22) (oi := _) (v := ?_) rfl rfl (by kernel_rfl) (by kernel_rfl) (by kernel_rfl) (fun _ _ _ h => h) (Or.inl ⟨by rfl, ?_⟩) hHeld ?_
      rotate_left
      · intro w' hSw; try dsimp only at hSw
        go_simp
        try with_reducible rfl
      try simp only [puts, gets]
      refine any_take (by kernel_rfl) (i := 23) (oi := _) (v := ?_) rfl rfl (by kernel_rfl) (by kernel_rfl) (by kernel_rfl) (fun _ _ _ h => h) (Or.inl ⟨by rfl, ?_⟩) hHeld ?_
      rotate_left
      · intro w' hSw; try dsimp only at hSw
        go_simp
        try with_reducible rfl
      try simp only [puts, gets]
      refine any_take (by kernel_rfl) (i := 24) (oi := _) (v := ?_) rfl rfl (by kernel_rfl) (by kernel_rfl) (by kernel_rfl) (fun _ _ _ h => h) (Or.inl ⟨by rfl, ?_⟩) hHeld ?_
      rotate_left
      · intro w' hSw; try dsimp only at hSw
        go_simp
        try with_reducible rfl
      try simp only [puts, gets]
      refine any_done (by kernel_rfl) ?_ _
      refine NoPanic.normal ?_
      go_wp2
      go_ret
      exact ⟨rfl, below_trans b0 bB4⟩
end Go.Proofs.YtkjlflmcojmfgaaDoor
