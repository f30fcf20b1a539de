/- The walks of the reference's Same, SameTuples, Few. -/
import Derived.Test.YtdibijhaiaiifaaDoorVal
namespace Go.Proofs.YtdibijhaiaiifaaDoor
open Go.RowKit
theorem rCmp_aftB {W : World} {va vb : Value} {a b : Tp} {z : Int} (ha : IsVals W va a) (hb : IsVals W vb b) (hz : cmpT a b = z) (p : AftB W) : Calls Tryd.prog 42 #[va, vb] p.w' fun e w'' => e = .returned (.int .i64 z) ∧ ∃ q : AftB W, w'' = q.w' := by
  subst hz
  exact AftB.call ((rCompareTuple_any va vb a b p.w' (ha.keep p.ok) (hb.keep p.ok)).mono fun _ _ ⟨h, g⟩ => ⟨h, g.below⟩)
theorem iSame_aftB {W : World} {va vb : Value} {a b : List Sp} {c : Bool} (ha : IsSpans W va a) (hb : IsSpans W vb b) (hc : decide (a = b) = c) (p : AftB W) : Calls Tryd.prog 21 #[va, vb] p.w' fun e w'' => e = .returned (.bool c) ∧ ∃ q : AftB W, w'' = q.w' := by
  subst hc
  exact AftB.call (Same_any va vb a b p.w' (ha.keep p.ok) (hb.keep p.ok))
theorem rows_at {xs : List RR} {i : Nat} {x : RR} (h : xs[i]? = some x) : (rows xs)[i]? = some x.rw := by unfold rows; rw [List.getElem?_map, h]; rfl
theorem take_rows {xs ys : List RR} {i : Nat} {x y : RR} (h : (rows xs).take i = (rows ys).take i) (hx : xs[i]? = some x) (hy : ys[i]? = some y) (e : x.rw = y.rw) : (rows xs).take (i + 1) = (rows ys).take (i + 1) := by
  rw [take_succ' (rows_at hx), take_succ' (rows_at hy), h, e]
theorem rows_ne {xs ys : List RR} {i : Nat} {x y : RR} (hx : xs[i]? = some x) (hy : ys[i]? = some y) (e : ¬ x.rw = y.rw) : ¬ rows xs = rows ys := fun h => e (by
  have h1 := rows_at hx
  rw [h, rows_at hy] at h1
  exact (Option.some.inj h1).symm)
set_option maxHeartbeats 4000000 in
set_option maxRecDepth 1000000 in
theorem rSameR_any (va vb : Value) (xs ys : List RR) (w : World) (ha : IsRel w va xs) (hb : IsRel w vb ys) : Calls Tryd.prog 24 #[va, vb] w fun e w' => e = .returned (.bool (decide (rows xs = rows ys))) ∧ Below w.heap.size w w' := by
  obtain ⟨r, hr⟩ : ∃ r, decide (rows xs = rows ys) = r := ⟨_, rfl⟩
  rw [hr]
  have HR := Lib.hid hr
  clear hr
  obtain ⟨pa, ca, rfl, hma⟩ := ha.shape
  obtain ⟨pb, cb, rfl, hmb⟩ := hb.shape
  obtain ⟨n, hn⟩ : ∃ n, xs.length = n := ⟨_, rfl⟩
  obtain ⟨m, hm⟩ : ∃ m, ys.length = m := ⟨_, rfl⟩
  rw [hn] at ha hma
  rw [hm] at hb hmb
  rw [hn, hm]
  have HN := Lib.hid hn
  have HM := Lib.hid hm
  clear hn hm
  by_cases hl : n = m
  · subst hl
    have z0 : ((n : Int) != (n : Int)) = false := by simp
    go_enter Tryd.func24, Tryd.ntmps24
    go_wp2
    go_loopg [5] n (fun g vi wr => ∃ i : Nat, vi = .int .i64 i ∧ i ≤ n ∧ n - i ≤ g ∧ Hid ((rows xs).take i = (rows ys).take i) ∧ Below w.heap.size w wr)
    case atStart => exact ⟨0, rfl, Nat.zero_le _, Nat.le_refl _, Lib.hid rfl, Below.refl _ _⟩
    case round =>
      obtain ⟨i, rfl, hi, hg, V, B⟩ := hrel
      by_cases hlt : i < n
      · have hltz : (i : Int) < (n : Int) := by omega
        obtain ⟨x, hx⟩ := getElem_of_lt (l := xs) (i := i) (by have := HN.out; omega)
        obtain ⟨y, hy⟩ := getElem_of_lt (l := ys) (i := i) (by have := HM.out; omega)
        obtain ⟨b1, o1, e, c0, c1, rx⟩ := (ha.keep B).at_ hx
        cases e
        obtain ⟨b2, o2, e, d0, d1, ry⟩ := (hb.keep B).at_ hy
        cases e
        have VS := Lib.hid (fun e => take_rows V.out hx hy e)
        have VN := Lib.hid (fun e => (show r = false by rw [← HR.out]; exact decide_eq_false (rows_ne hx hy e)))
        clear hx hy
        obtain ⟨z, hz⟩ : ∃ z, cmpT x.t y.t = z := ⟨_, rfl⟩
        have a0 := AftB.cell c0
        have a1 := AftB.cell c1
        have a2 := AftB.cell d0
        have a3 := AftB.cell d1
        have rxv := rx.vals
        have ryv := ry.vals
        have rxs := rx.spans
        have rys := ry.spans
        clear c0 c1 d0 d1 rx ry
        have HZ := Lib.hid hz
        clear hz
        by_cases hz0 : z = 0
        · have ET := Lib.hid (show x.t = y.t from (cmpT_is.eq _ _).1 (HZ.out.trans hz0))
          have z1 : (z != 0) = false := by rw [hz0]; rfl
          clear hz0
          cases hs : decide (x.s = y.s)
          · have RES := Lib.hid (VN.out fun e => by have := congrArg Prod.snd e; exact absurd this (of_decide_eq_false hs))
            clear VN VS
            go_upto_region 6 with fail
            refine wp_region_aftB (by kernel_rfl) (by kernel_rfl) ?_
            repeat (go_big_quiet_step ((first | exact rCmp_aftB rxv ryv HZ.out _ | exact iSame_aftB rxs rys hs _)))
            refine wpQuiet_nil ?_
            intro w5 B5
            clear a0 a1 a2 a3
            go_wp2
            go_ret
            exact ⟨by rw [RES.out]; rfl, B.trans (B5.mono B.size)⟩
          · have VS2 := Lib.hid (VS.out (Prod.ext ET.out (of_decide_eq_true hs)))
            clear VN VS
            go_upto_region 6 with fail
            refine wp_region_aftB (by kernel_rfl) (by kernel_rfl) ?_
            repeat (go_big_quiet_step ((first | exact rCmp_aftB rxv ryv HZ.out _ | exact iSame_aftB rxs rys hs _)))
            refine wpQuiet_nil ?_
            intro w5 B5
            clear a0 a1 a2 a3
            go_wp2
            go_roundg (n - (i + 1))
            case measure => omega
            case rel => exact ⟨i + 1, by go_num, hlt, Nat.le_refl _, VS2, B.trans (B5.mono B.size)⟩
        · have RES := Lib.hid (VN.out fun e => hz0 (by rw [← HZ.out]; exact (cmpT_is.eq _ _).2 (congrArg Prod.fst e)))
          have z1 : (z != 0) = true := by rw [bne_iff_ne]; exact hz0
          clear VN VS hz0
          go_upto_region 6 with fail
          refine wp_region_aftB (by kernel_rfl) (by kernel_rfl) ?_
          repeat (go_big_quiet_step ((exact rCmp_aftB rxv ryv HZ.out _)))
          refine wpQuiet_nil ?_
          intro w5 B5
          clear a0 a1 a2 a3
          go_wp2
          go_ret
          exact ⟨by rw [RES.out]; rfl, B.trans (B5.mono B.size)⟩
      · have hltz : ¬ (i : Int) < (n : Int) := by omega
        have RES := Lib.hid (show r = true by
          rw [← HR.out]
          have h1 := V.out
          rw [List.take_of_length_le (by rw [rows_length, HN.out]; omega), List.take_of_length_le (by rw [rows_length, HM.out]; omega)] at h1
          exact decide_eq_true h1)
        go_wp2
        go_ret
        exact ⟨by rw [RES.out]; rfl, B⟩
  · have z0 : ((n : Int) != (m : Int)) = true := by rw [bne_iff_ne]; omega
    have RES := Lib.hid (show r = false by
      rw [← HR.out]
      exact decide_eq_false fun e => hl (by have := congrArg List.length e; rwa [rows_length, rows_length, HN.out, HM.out] at this))
    clear hl
    go_enter Tryd.func24, Tryd.ntmps24
    go_wp2
    go_ret
    exact ⟨by rw [RES.out]; rfl, Below.refl _ _⟩
def tups (l : List TT) : List Tp := l.map (·.t)
theorem tups_at {xs : List TT} {i : Nat} {x : TT} (h : xs[i]? = some x) : (tups xs)[i]? = some x.t := by unfold tups; rw [List.getElem?_map, h]; rfl
theorem take_tups {xs ys : List TT} {i : Nat} {x y : TT} (h : (tups xs).take i = (tups ys).take i) (hx : xs[i]? = some x) (hy : ys[i]? = some y) (e : x.t = y.t) : (tups xs).take (i + 1) = (tups ys).take (i + 1) := by
  rw [take_succ' (tups_at hx), take_succ' (tups_at hy), h, e]
theorem tups_ne {xs ys : List TT} {i : Nat} {x y : TT} (hx : xs[i]? = some x) (hy : ys[i]? = some y) (e : ¬ x.t = y.t) : ¬ tups xs = tups ys := fun h => e (by
  have h1 := tups_at hx
  rw [h, tups_at hy] at h1
  exact (Option.some.inj h1).symm)
theorem tups_length (a : List TT) : (tups a).length = a.length := by simp [tups]
set_option maxHeartbeats 4000000 in
set_option maxRecDepth 1000000 in
theorem rSameT_any (va vb : Value) (xs ys : List TT) (w : World) (ha : IsTups w va xs) (hb : IsTups w vb ys) : Calls Tryd.prog 35 #[va, vb] w fun e w' => e = .returned (.bool (decide (tups xs = tups ys))) ∧ Below w.heap.size w w' := by
  obtain ⟨r, hr⟩ : ∃ r, decide (tups xs = tups ys) = r := ⟨_, rfl⟩
  rw [hr]
  have HR := Lib.hid hr
  clear hr
  obtain ⟨pa, ca, rfl, hma⟩ := ha.shape
  obtain ⟨pb, cb, rfl, hmb⟩ := hb.shape
  obtain ⟨n, hn⟩ : ∃ n, xs.length = n := ⟨_, rfl⟩
  obtain ⟨m, hm⟩ : ∃ m, ys.length = m := ⟨_, rfl⟩
  rw [hn] at ha hma
  rw [hm] at hb hmb
  rw [hn, hm]
  have HN := Lib.hid hn
  have HM := Lib.hid hm
  clear hn hm
  by_cases hl : n = m
  · subst hl
    have z0 : ((n : Int) != (n : Int)) = false := by simp
    go_enter Tryd.func35, Tryd.ntmps35
    go_wp2
    go_loopg [5] n (fun g vi wr => ∃ i : Nat, vi = .int .i64 i ∧ i ≤ n ∧ n - i ≤ g ∧ Hid ((tups xs).take i = (tups ys).take i) ∧ Below w.heap.size w wr)
    case atStart => exact ⟨0, rfl, Nat.zero_le _, Nat.le_refl _, Lib.hid rfl, Below.refl _ _⟩
    case round =>
      obtain ⟨i, rfl, hi, hg, V, B⟩ := hrel
      by_cases hlt : i < n
      · have hltz : (i : Int) < (n : Int) := by omega
        obtain ⟨x, hx⟩ := getElem_of_lt (l := xs) (i := i) (by have := HN.out; omega)
        obtain ⟨y, hy⟩ := getElem_of_lt (l := ys) (i := i) (by have := HM.out; omega)
        obtain ⟨b1, o1, e, c0, rx⟩ := (ha.keep B).at_ hx
        cases e
        obtain ⟨b2, o2, e, d0, ry⟩ := (hb.keep B).at_ hy
        cases e
        have VS := Lib.hid (fun e => take_tups V.out hx hy e)
        have VN := Lib.hid (fun e => (show r = false by rw [← HR.out]; exact decide_eq_false (tups_ne hx hy e)))
        clear hx hy
        obtain ⟨z, hz⟩ : ∃ z, cmpT x.t y.t = z := ⟨_, rfl⟩
        have a0 := AftB.cell c0
        have a2 := AftB.cell d0
        have HZ := Lib.hid hz
        clear hz c0 d0
        by_cases hz0 : z = 0
        · have VS2 := Lib.hid (VS.out ((cmpT_is.eq _ _).1 (HZ.out.trans hz0)))
          have z1 : (z != 0) = false := by rw [hz0]; rfl
          clear VN VS hz0
          go_upto_region 6 with fail
          refine wp_region_aftB (by kernel_rfl) (by kernel_rfl) ?_
          repeat (go_big_quiet_step ((exact rCmp_aftB rx ry HZ.out _)))
          refine wpQuiet_nil ?_
          intro w5 B5
          clear a0 a2
          go_wp2
          go_roundg (n - (i + 1))
          case measure => omega
          case rel => exact ⟨i + 1, by go_num, hlt, Nat.le_refl _, VS2, B.trans (B5.mono B.size)⟩
        · have RES := Lib.hid (VN.out fun e => hz0 (by rw [← HZ.out]; exact (cmpT_is.eq _ _).2 e))
          have z1 : (z != 0) = true := by rw [bne_iff_ne]; exact hz0
          clear VN VS hz0
          go_upto_region 6 with fail
          refine wp_region_aftB (by kernel_rfl) (by kernel_rfl) ?_
          repeat (go_big_quiet_step ((exact rCmp_aftB rx ry HZ.out _)))
          refine wpQuiet_nil ?_
          intro w5 B5
          clear a0 a2
          go_wp2
          go_ret
          exact ⟨by rw [RES.out]; rfl, B.trans (B5.mono B.size)⟩
      · have hltz : ¬ (i : Int) < (n : Int) := by omega
        have RES := Lib.hid (show r = true by
          rw [← HR.out]
          have h1 := V.out
          rw [List.take_of_length_le (by rw [tups_length, HN.out]; omega), List.take_of_length_le (by rw [tups_length, HM.out]; omega)] at h1
          exact decide_eq_true h1)
        go_wp2
        go_ret
        exact ⟨by rw [RES.out]; rfl, B⟩
  · have z0 : ((n : Int) != (m : Int)) = true := by rw [bne_iff_ne]; omega
    have RES := Lib.hid (show r = false by
      rw [← HR.out]
      exact decide_eq_false fun e => hl (by have := congrArg List.length e; rwa [tups_length, tups_length, HN.out, HM.out] at this))
    clear hl
    go_enter Tryd.func35, Tryd.ntmps35
    go_wp2
    go_ret
    exact ⟨by rw [RES.out]; rfl, Below.refl _ _⟩
/-- At most 40 rows of at most 6 values and 20 spans. -/
def fewR (xs : List RR) : Bool := decide (xs.length ≤ 40) && xs.all fun x => decide (x.t.length ≤ 6) && decide (x.s.length ≤ 20)
theorem fewR_sml {xs : List RR} (h : fewR xs = true) : Sml 40 xs := by
  unfold fewR at h
  rw [Bool.and_eq_true, decide_eq_true_iff, List.all_eq_true] at h
  refine ⟨h.1, fun x hx => ?_⟩
  have := h.2 x hx
  rw [Bool.and_eq_true, decide_eq_true_iff, decide_eq_true_iff] at this
  omega
theorem few_no {xs : List RR} {i : Nat} {x : RR} (hx : xs[i]? = some x) (h : ¬ (x.t.length ≤ 6 ∧ x.s.length ≤ 20)) : fewR xs = false := by
  unfold fewR
  rw [Bool.and_eq_false_iff]
  refine .inr ?_
  rw [List.all_eq_false]
  refine ⟨x, List.mem_of_getElem? hx, ?_⟩
  rw [Bool.and_eq_true, decide_eq_true_iff, decide_eq_true_iff]
  exact h
set_option maxHeartbeats 4000000 in
set_option maxRecDepth 1000000 in
theorem fewR_any (va : Value) (xs : List RR) (w : World) (ha : IsRel w va xs) : Calls Tryd.prog 38 #[va] w fun e w' => e = .returned (.bool (fewR xs)) ∧ Below w.heap.size w w' := by
  obtain ⟨r, hr⟩ : ∃ r, fewR xs = r := ⟨_, rfl⟩
  rw [hr]
  have HR := Lib.hid hr
  clear hr
  obtain ⟨pa, ca, rfl, hma⟩ := ha.shape
  by_cases h40 : xs.length ≤ 40
  · have z0 : ¬ (40 : Int) < (xs.length : Int) := by omega
    go_enter Tryd.func38, Tryd.ntmps38
    go_wp2
    go_loopg [3] xs.length (fun g vi wr => ∃ i : Nat, w = wr ∧ vi = .int .i64 i ∧ i ≤ xs.length ∧ xs.length - i ≤ g ∧ Hid ((xs.take i).all (fun x => decide (x.t.length ≤ 6) && decide (x.s.length ≤ 20)) = true))
    case atStart => exact ⟨0, rfl, rfl, Nat.zero_le _, Nat.le_refl _, Lib.hid rfl⟩
    case round =>
      obtain ⟨i, rfl, rfl, hi, hg, V⟩ := hrel
      by_cases hlt : i < xs.length
      · have hltz : (i : Int) < (xs.length : Int) := by omega
        obtain ⟨x, hx⟩ := getElem_of_lt hlt
        obtain ⟨b1, o1, e, c0, c1, rx⟩ := ha.at_ hx
        cases e
        have VN := Lib.hid (fun h => HR.out.symm.trans (few_no hx h))
        have VS := Lib.hid (fun h => (show (xs.take (i + 1)).all (fun x => decide (x.t.length ≤ 6) && decide (x.s.length ≤ 20)) = true by
          rw [take_succ' hx, List.all_append, V.out, List.all_cons, List.all_nil, Bool.true_and, Bool.and_true]; exact h))
        clear hx
        by_cases h6 : x.t.length ≤ 6
        · have z1 : ¬ (6 : Int) < ((List.length x.t : Nat) : Int) := by omega
          by_cases h20 : x.s.length ≤ 20
          · have z2 : ¬ (20 : Int) < (x.s.length : Int) := by omega
            have VS2 := Lib.hid (VS.out (by rw [decide_eq_true h6, decide_eq_true h20]; rfl))
            clear VN VS rx
            go_wp2
            go_roundg (xs.length - (i + 1))
            case measure => omega
            case rel => exact ⟨i + 1, rfl, by go_num, hlt, Nat.le_refl _, VS2⟩
          · have z2 : (20 : Int) < (x.s.length : Int) := by omega
            have RES := Lib.hid (VN.out fun h => h20 h.2)
            clear VN VS rx
            go_wp2
            go_ret
            exact ⟨by rw [RES.out]; rfl, Below.refl _ _⟩
        · have z1 : (6 : Int) < ((List.length x.t : Nat) : Int) := by omega
          have RES := Lib.hid (VN.out fun h => h6 h.1)
          clear VN VS rx
          go_wp2
          go_ret
          exact ⟨by rw [RES.out]; rfl, Below.refl _ _⟩
      · have hltz : ¬ (i : Int) < (xs.length : Int) := by omega
        have RES := Lib.hid (show r = true by
          rw [← HR.out]; unfold fewR
          have := V.out
          rw [List.take_of_length_le (by omega)] at this
          rw [decide_eq_true h40, this]; rfl)
        go_wp2
        go_ret
        exact ⟨by rw [RES.out]; rfl, Below.refl _ _⟩
  · have z0 : (40 : Int) < (xs.length : Int) := by omega
    have RES := Lib.hid (show r = false by rw [← HR.out]; unfold fewR; rw [decide_eq_false h40]; rfl)
    go_enter Tryd.func38, Tryd.ntmps38
    go_wp2
    go_ret
    exact ⟨by rw [RES.out]; rfl, Below.refl _ _⟩
end Go.Proofs.YtdibijhaiaiifaaDoor
