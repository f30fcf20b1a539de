/- Parts Zb, Zc: words, walks and laws that the claims of this seat share. -/
import Derived.Test.YtdibijhaiaiifaaDoorJ18
import Derived.Test.YtdibijhaiaiifaaDoorJ20
/- The walks of the reference's SameValues, In, Empty and Seek. -/
namespace Go.Proofs.YtdibijhaiaiifaaDoor
open Go.RowKit
theorem getV {l : List Vl} {i : Nat} (h : i < l.length) : ∃ x, l[i]? = some x := ⟨_, List.getElem?_eq_getElem h⟩
set_option maxHeartbeats 4000000 in
set_option maxRecDepth 1000000 in
theorem SameValues_any (va vb : Value) (a b : Tp) (w : World) (ha : IsVals w va a) (hb : IsVals w vb b) : Calls Tryd.prog 64 #[va, vb] w fun e w' => e = .returned (.bool (decide (a = b))) ∧ Below w.heap.size w w' := by
  obtain ⟨r, hr⟩ : ∃ r, decide (a = b) = r := ⟨_, rfl⟩
  rw [hr]
  have HR := Lib.hid hr
  clear hr
  obtain ⟨pa, ca, rfl, -, hma, -⟩ := id ha
  obtain ⟨pb, cb, rfl, -⟩ := id hb
  obtain ⟨n, hn⟩ : ∃ n, a.length = n := ⟨_, rfl⟩
  obtain ⟨m, hm⟩ : ∃ n, b.length = n := ⟨_, rfl⟩
  rw [hn] at hma
  rw [hn] at ha
  rw [hm] at hb
  rw [hn, hm]
  have HN := Lib.hid hn
  have HM := Lib.hid hm
  clear hn hm
  by_cases hl : n = m
  · subst hl
    have z0 : ((n : Int) != (n : Int)) = false := by simp
    go_enter Tryd.func64, Tryd.ntmps64
    go_wp2
    go_loopg [5] n (fun g vi wr => ∃ i : Nat, vi = .int .i64 i ∧ i ≤ n ∧ n - i ≤ g ∧ Hid (a.take i = b.take i) ∧ Below w.heap.size w wr)
    case atStart => exact ⟨0, rfl, Nat.zero_le _, Nat.le_refl _, Lib.hid rfl, Below.refl _ _⟩
    case round =>
      obtain ⟨i, rfl, hi, hg, V, B⟩ := hrel
      by_cases hlt : i < n
      · have hltz : (i : Int) < (n : Int) := by omega
        obtain ⟨x, hx⟩ := getV (l := a) (i := i) (by have := HN.out; omega)
        obtain ⟨y, hy⟩ := getV (l := b) (i := i) (by have := HM.out; omega)
        obtain ⟨b1, o1, e, c0, c1, c2⟩ := vals_at' (ha.keep B) hx
        cases e
        obtain ⟨b2, o2, e, d0, d1, d2⟩ := vals_at' (hb.keep B) hy
        cases e
        obtain ⟨q, hq⟩ : ∃ q, (!decide (x = y)) = q := ⟨_, rfl⟩
        have hqr : ∀ w, (binOp .neq 58 (.agg #[.int .i64 x.t, .int .i64 x.n, strV x.s]) (.agg #[.int .i64 y.t, .int .i64 y.n, strV y.s])).run Tryd.prog w = .ok (.bool q) w := fun w => by rw [← hq]; exact run_neq_vl x y w
        have hgd := run_guard_vl .neq
        have VS := Lib.hid (show q = false → a.take (i + 1) = b.take (i + 1) from fun e => by
          have e : x = y := by rw [e] at hq; simpa using hq
          rw [take_succ' hx, take_succ' hy, V.out, e])
        have VN := Lib.hid (show q = true → r = false from fun e => by
          rw [← HR.out, decide_eq_false_iff_not]
          rintro rfl
          rw [hx] at hy
          injection hy with hy
          rw [hy, e] at hq
          simp at hq)
        clear hq hx hy
        unfold strV at hqr c2 d2
        have a_c0 := AftB.cell c0
        have a_c1 := AftB.cell c1
        have a_c2 := AftB.cell c2
        have a_d0 := AftB.cell d0
        have a_d1 := AftB.cell d1
        have a_d2 := AftB.cell d2
        clear c0 c1 c2 d0 d1 d2
        go_upto_region 6 with fail
        refine wp_region_aftB (by kernel_rfl) (by kernel_rfl) ?_
        repeat (go_big_quiet_step (fail))
        refine wpQuiet_nil ?_
        intro w6 B6
        have BB := B.trans (B6.mono B.size)
        clear a_c0 a_c1 a_c2 a_d0 a_d1 a_d2 hqr hgd
        cases q with
        | true =>
          have RES := Lib.hid (VN.out rfl)
          go_wp2
          go_ret
          exact ⟨by rw [RES.out]; rfl, BB⟩
        | false =>
          have VX := Lib.hid (VS.out rfl)
          go_wp2
          go_roundg (n - (i + 1))
          case measure => omega
          case rel => exact ⟨i + 1, by go_num, hlt, Nat.le_refl _, VX, BB⟩
      · have hltz : ¬ (i : Int) < (n : Int) := by omega
        have RES := Lib.hid (show r = true by
          rw [← HR.out, decide_eq_true_iff]
          have := V.out
          rwa [List.take_of_length_le (by have := HN.out; omega), List.take_of_length_le (by have := HM.out; omega)] at this)
        go_wp2
        go_ret
        exact ⟨by rw [RES.out]; rfl, B⟩
  · have z0 : ((n : Int) != (m : Int)) = true := by rw [bne_iff_ne]; omega
    have RES := Lib.hid (show r = false by
      rw [← HR.out]
      exact decide_eq_false fun e => hl (by rw [← HN.out, ← HM.out, e]))
    clear hl
    go_enter Tryd.func64, Tryd.ntmps64
    go_wp2
    go_ret
    exact ⟨by rw [RES.out]; rfl, Below.refl _ _⟩
set_option maxHeartbeats 4000000 in
set_option maxRecDepth 1000000 in
theorem rEmpty_any (t : TR) (w : World) : Calls Tryd.prog 111 #[trV t] w fun e w' => e = .returned (.bool (emptyB t.tr)) ∧ Below w.heap.size w w' := by
  rw [emptyB_tr]
  unfold trV
  have BA := below_new w (.cells #[t.vv, t.kv, t.wv] 64)
  have X := Cel.new w 64 [t.vv, t.kv, t.wv]
  obtain ⟨wA, hwA⟩ : ∃ z, w.alloc (.cells #[t.vv, t.kv, t.wv] 64) = z := ⟨_, rfl⟩
  rw [hwA] at X BA
  have q0 := X.at_ (j := 0) rfl
  have q2 := X.at_ (j := 2) rfl
  unfold TR.vv at q0
  unfold TR.wv at q2
  by_cases h0 : t.vs.length = 0
  · rw [h0] at q0
    by_cases h2 : t.s.length = 0
    · rw [h2] at q2
      rw [h0, h2]
      go_enter Tryd.func111, Tryd.ntmps111
      go_wp2
      go_ret
      exact ⟨rfl, BA⟩
    · have z2 : ((t.s.length : Int) == 0) = false := by rw [beq_eq_false_iff_ne]; omega
      rw [decide_eq_false (by omega)]
      go_enter Tryd.func111, Tryd.ntmps111
      go_wp2
      go_ret
      exact ⟨rfl, BA⟩
  · have z0 : ((t.vs.length : Int) == 0) = false := by rw [beq_eq_false_iff_ne]; omega
    rw [decide_eq_false (by omega)]
    go_enter Tryd.func111, Tryd.ntmps111
    go_wp2
    go_ret
    exact ⟨rfl, BA⟩
/-- Two boxes: of a trie and of a value. -/
theorem box_two (w : World) (t : TR) (y : Vl) : ∃ w1, (w.alloc (.cells #[t.vv, t.kv, t.wv] 64)).alloc (.cells #[.int .i64 y.t, .int .i64 y.n, strV y.s] 58) = w1 ∧ Below w.heap.size w w1 ∧ Cel w1 w.heap.size 64 [t.vv, t.kv, t.wv] ∧ Cel w1 (w.heap.size + 1) 58 [.int .i64 y.t, .int .i64 y.n, strV y.s] := by
  refine ⟨_, rfl, below_alloc' (below_new _ _), (Cel.new w 64 _).keep (below_new _ _), ?_⟩
  have := Cel.new (w.alloc (.cells #[t.vv, t.kv, t.wv] 64)) 58 [.int .i64 y.t, .int .i64 y.n, strV y.s]
  rw [World.size_alloc] at this
  exact this
set_option maxHeartbeats 4000000 in
set_option maxRecDepth 1000000 in
theorem In_any (t : TR) (y : Vl) (w : World) (ht : TrOk w t) : Calls Tryd.prog 114 #[trV t, valV y] w fun e w' => e = .returned (.bool (decide (y ∈ t.vs))) ∧ Below w.heap.size w w' := by
  obtain ⟨r, hr⟩ : ∃ r, decide (y ∈ t.vs) = r := ⟨_, rfl⟩
  rw [hr]
  have HR := Lib.hid hr
  clear hr
  unfold trV valV
  obtain ⟨w1, hw1, B1, X, Y⟩ := box_two w t y
  have hv := ht.vals.keep B1
  clear ht
  go_enter Tryd.func114, Tryd.ntmps114
  go_upto_region 1 with fail
  clear hw1
  obtain ⟨b2, hb2⟩ : ∃ b, w.heap.size = b := ⟨_, rfl⟩
  obtain ⟨b3, hb3⟩ : ∃ b, b2 + 1 = b := ⟨_, rfl⟩
  have BB := B1
  rw [hb2] at X Y
  rw [hb3] at Y
  rw [hb2]
  rw [hb3]
  have q0 := X.at_ (j := 0) rfl
  have y0 := Y.at_ (j := 0) rfl
  have y1 := Y.at_ (j := 1) rfl
  have y2 := Y.at_ (j := 2) rfl
  unfold TR.vv at q0 hv
  unfold strV at y2
  obtain ⟨-, -, -, -, hmn, -⟩ := id hv
  obtain ⟨n, hn⟩ : ∃ n, t.vs.length = n := ⟨_, rfl⟩
  rw [hn] at q0 hv hmn
  have HN := Lib.hid hn
  have HB := Lib.hid BB
  clear hn hb2 hb3 X Y B1 BB
  go_wp2
  go_loopg [5] n (fun g vi wr => ∃ i : Nat, vi = .int .i64 i ∧ i ≤ n ∧ n - i ≤ g ∧ Hid (∀ x ∈ t.vs.take i, x ≠ y) ∧ Below w1.heap.size w1 wr)
  case atStart => exact ⟨0, rfl, Nat.zero_le _, Nat.le_refl _, Lib.hid (by simp), Below.refl _ _⟩
  case round =>
    obtain ⟨i, rfl, hi, hg, V, B⟩ := hrel
    have q0' := cell_keep B q0
    by_cases hlt : i < n
    · have hltz : (i : Int) < (n : Int) := by omega
      obtain ⟨x, hx⟩ := getV (l := t.vs) (i := i) (by have := HN.out; omega)
      obtain ⟨b1, o1, e, c0, c1, c2⟩ := vals_at' (hv.keep B) hx
      rw [e] at q0'
      obtain ⟨q, hq⟩ : ∃ q, decide (x = y) = q := ⟨_, rfl⟩
      have hqr : ∀ w, (binOp .eql 58 (.agg #[.int .i64 x.t, .int .i64 x.n, strV x.s]) (.agg #[.int .i64 y.t, .int .i64 y.n, strV y.s])).run Tryd.prog w = .ok (.bool q) w := fun w => by rw [← hq]; exact run_eq_vl x y w
      have hgd := run_guard_vl .eql
      have VS := Lib.hid (show q = false → ∀ x ∈ t.vs.take (i + 1), x ≠ y from fun e z hz => by
        have e : x ≠ y := by rw [e] at hq; simpa using hq
        rw [take_succ' hx] at hz
        rcases List.mem_append.1 hz with hz | hz
        · exact V.out z hz
        · rw [List.mem_singleton.1 hz]; exact e)
      have VN := Lib.hid (show q = true → r = true from fun e => by
        have e : x = y := by rw [e] at hq; simpa using hq
        rw [← HR.out, decide_eq_true_iff, ← e]
        exact List.mem_of_getElem? hx)
      clear hq hx
      unfold strV at hqr c2
      have a_c0 := AftB.cell c0
      have a_c1 := AftB.cell c1
      have a_c2 := AftB.cell c2
      have a_d0 := AftB.cell (cell_keep B y0)
      have a_d1 := AftB.cell (cell_keep B y1)
      have a_d2 := AftB.cell (cell_keep B y2)
      have a_q := AftB.cell q0'
      clear c0 c1 c2
      go_upto_region 4 with fail
      refine wp_region_aftB (by kernel_rfl) (by kernel_rfl) ?_
      repeat (go_big_quiet_step (fail))
      refine wpQuiet_nil ?_
      intro w6 B6
      have BB := B.trans (B6.mono B.size)
      clear a_c0 a_c1 a_c2 a_d0 a_d1 a_d2 a_q hqr hgd q0'
      cases q with
      | true =>
        have RES := Lib.hid (VN.out rfl)
        go_wp2
        go_ret
        exact ⟨by rw [RES.out]; rfl, below_trans HB.out BB⟩
      | false =>
        have VX := Lib.hid (VS.out rfl)
        go_wp2
        try rw [← e]
        go_roundg (n - (i + 1))
        case measure => omega
        case rel => exact ⟨i + 1, by go_num, hlt, Nat.le_refl _, VX, BB⟩
    · have hltz : ¬ (i : Int) < (n : Int) := by omega
      have RES := Lib.hid (show r = false by
        rw [← HR.out, decide_eq_false_iff_not]
        intro hm
        have := V.out y (by rwa [List.take_of_length_le (by have := HN.out; omega)])
        exact this rfl)
      go_wp2
      go_ret
      exact ⟨by rw [RES.out]; rfl, below_trans HB.out B⟩
end Go.Proofs.YtdibijhaiaiifaaDoor
/- The walks of the reference's Seek and Sub. -/
namespace Go.Proofs.YtdibijhaiaiifaaDoor
open Go.RowKit
theorem seekN_srch (vs : List Vl) (y : Vl) : SrchOf (seekP vs y) vs.length (seekN vs y) := by
  refine ⟨seekN_le _ _, fun k e => ?_, fun hl => ?_⟩
  · have hl := seekN_le vs y
    obtain ⟨z, hz⟩ := getV (l := vs) (i := k) (by omega)
    rw [seekP_at hz, decide_eq_false_iff_not]
    have := seekN_before (show k < seekN vs y by omega) hz
    omega
  · obtain ⟨z, hz⟩ := getV hl
    rw [seekP_at hz, decide_eq_true_iff]
    have := seekN_stop hz
    omega
theorem rCompare_aftB {W : World} {x y : Vl} {r : Int} (hr : cmpV x y = r) (p : AftB W) : Calls Tryd.prog 93 #[.agg #[.int .i64 x.t, .int .i64 x.n, .string ⟨x.s.toArray⟩], .agg #[.int .i64 y.t, .int .i64 y.n, .string ⟨y.s.toArray⟩]] p.w' fun e w'' => e = .returned (.int .i64 r) ∧ ∃ q : AftB W, w'' = q.w' := by
  subst hr
  exact AftB.call ((rCompare_any x y p.w').mono fun e w' h => ⟨h.1, h.2.below⟩)
set_option maxHeartbeats 4000000 in
set_option maxRecDepth 1000000 in
theorem rSeek_any (t : TR) (y : Vl) (w : World) (ht : TrOk w t) : Calls Tryd.prog 59 #[trV t, valV y] w fun e w' => e = .returned (.int .i64 (seekN t.vs y)) ∧ Below w.heap.size w w' := by
  obtain ⟨s, hs⟩ : ∃ s, seekN t.vs y = s := ⟨_, rfl⟩
  rw [hs]
  have HS := Lib.hid hs
  clear hs
  unfold trV valV
  obtain ⟨w1, hw1, B1, X, Y⟩ := box_two w t y
  have hv := ht.vals.keep B1
  clear ht
  go_enter Tryd.func59, Tryd.ntmps59
  go_upto_region 1 with fail
  clear hw1
  obtain ⟨b2, hb2⟩ : ∃ b, w.heap.size = b := ⟨_, rfl⟩
  obtain ⟨b3, hb3⟩ : ∃ b, b2 + 1 = b := ⟨_, rfl⟩
  have BB := B1
  rw [hb2] at X Y
  rw [hb3] at Y
  rw [hb2]
  rw [hb3]
  have q0 := X.at_ (j := 0) rfl
  have y0 := Y.at_ (j := 0) rfl
  have y1 := Y.at_ (j := 1) rfl
  have y2 := Y.at_ (j := 2) rfl
  unfold TR.vv at q0 hv
  unfold strV at y2
  obtain ⟨-, -, -, -, hmn, -⟩ := id hv
  obtain ⟨n, hn⟩ : ∃ n, t.vs.length = n := ⟨_, rfl⟩
  rw [hn] at q0 hv hmn
  have HN := Lib.hid hn
  have HB := Lib.hid BB
  clear hn hb2 hb3 X Y B1 BB
  go_wp2
  go_loopg [5] n (fun g vi wr => ∃ i : Nat, vi = .int .i64 i ∧ i ≤ n ∧ n - i ≤ g ∧ Hid (i ≤ seekN t.vs y) ∧ Below w1.heap.size w1 wr)
  case atStart => exact ⟨0, rfl, Nat.zero_le _, Nat.le_refl _, Lib.hid (Nat.zero_le _), Below.refl _ _⟩
  case round =>
    obtain ⟨i, rfl, hi, hg, V, B⟩ := hrel
    have q0' := cell_keep B q0
    have a_d0 := AftB.cell (cell_keep B y0)
    have a_d1 := AftB.cell (cell_keep B y1)
    have a_d2 := AftB.cell (cell_keep B y2)
    by_cases hlt : i < n
    · have hltz : (i : Int) < (n : Int) := by omega
      obtain ⟨x, hx⟩ := getV (l := t.vs) (i := i) (by have := HN.out; omega)
      obtain ⟨b1, o1, e, c0, c1, c2⟩ := vals_at' (hv.keep B) hx
      rw [e] at q0'
      obtain ⟨r, hr⟩ : ∃ r, cmpV x y = r := ⟨_, rfl⟩
      have VS := Lib.hid (show r < 0 → i + 1 ≤ seekN t.vs y from fun h => by
        rcases Nat.lt_or_ge i (seekN t.vs y) with q | q
        · exact q
        · have : i = seekN t.vs y := Nat.le_antisymm V.out q
          rw [this] at hx
          have := seekN_stop hx
          omega)
      have VN := Lib.hid (show ¬ r < 0 → i = s from fun h => by
        rw [← HS.out]
        rcases Nat.lt_or_ge i (seekN t.vs y) with q | q
        · have := seekN_before q hx
          omega
        · exact Nat.le_antisymm V.out q)
      have HR := Lib.hid hr
      clear hx hr
      unfold strV at c2
      have a_c0 := AftB.cell c0
      have a_c1 := AftB.cell c1
      have a_c2 := AftB.cell c2
      have a_q := AftB.cell q0'
      clear c0 c1 c2
      by_cases hr0 : r < 0
      · go_upto_region 2 with fail
        refine wp_region_aftB (by kernel_rfl) (by kernel_rfl) ?_
        repeat (go_big_quiet_step ((exact rCompare_aftB HR.out _)))
        refine wpQuiet_nil ?_
        intro w6 B6
        have BB := B.trans (B6.mono B.size)
        clear a_c0 a_c1 a_c2 a_d0 a_d1 a_d2 a_q q0'
        have VX := Lib.hid (VS.out hr0)
        go_wp2
        try rw [← e]
        go_roundg (n - (i + 1))
        case measure => omega
        case rel => exact ⟨i + 1, by go_num, hlt, Nat.le_refl _, VX, BB⟩
      · have hr1 : 0 ≤ r := by omega
        go_upto_region 2 with fail
        refine wp_region_aftB (by kernel_rfl) (by kernel_rfl) ?_
        repeat (go_big_quiet_step ((exact rCompare_aftB HR.out _)))
        refine wpQuiet_nil ?_
        intro w6 B6
        have BB := B.trans (B6.mono B.size)
        clear a_c0 a_c1 a_c2 a_d0 a_d1 a_d2 a_q q0'
        have RES := Lib.hid (VN.out hr0)
        go_wp2
        go_ret
        exact ⟨by rw [RES.out]; rfl, below_trans HB.out BB⟩
    · have hltz : ¬ (i : Int) < (n : Int) := by omega
      have RES := Lib.hid (show i = s by
        rw [← HS.out]
        have := V.out
        have h2 := seekN_le t.vs y
        rw [HN.out] at h2
        omega)
      have a_q := AftB.cell q0'
      go_upto_region 2 with fail
      refine wp_region_aftB (by kernel_rfl) (by kernel_rfl) ?_
      repeat (go_big_quiet_step (fail))
      refine wpQuiet_nil ?_
      intro w6 B6
      have BB := B.trans (B6.mono B.size)
      clear a_d0 a_d1 a_d2 a_q q0'
      go_wp2
      go_ret
      exact ⟨by rw [RES.out]; rfl, below_trans HB.out BB⟩
set_option maxHeartbeats 4000000 in
set_option maxRecDepth 1000000 in
theorem rSub_any (t : TR) (vp : Value) (p : List Vl) (w : World) (ht : TrOk w t) (hq : Sq t.tr) (hp : IsVals w vp p) : Calls Tryd.prog 55 #[trV t, vp] w (SubRet t.tr p w) := by
  obtain ⟨pp, pc, rfl, -, hpl, -, -⟩ := id hp
  unfold trV
  obtain ⟨w1, hw1⟩ : ∃ z, (w.alloc (.cells #[t.vv, t.kv, t.wv] 64)).alloc (.cells #[.slice none 0 0, .slice none 0 0, .slice none 0 0] 64) = z := ⟨_, rfl⟩
  have B1 : Below w.heap.size w w1 := by rw [← hw1]; exact below_alloc' (below_new _ _)
  have X2 : Cel w1 w.heap.size 64 [t.vv, t.kv, t.wv] := by rw [← hw1]; exact (Cel.new w 64 _).keep (below_new _ _)
  have X4 : Cel w1 (w.heap.size + 1) 64 [.slice none 0 0, .slice none 0 0, .slice none 0 0] := by
    have := Cel.new (w.alloc (.cells #[t.vv, t.kv, t.wv] 64)) 64 [.slice none 0 0, .slice none 0 0, .slice none 0 0]
    rw [World.size_alloc, hw1] at this
    exact this
  go_enter Tryd.func55, Tryd.ntmps55
  go_upto_region 1 with fail
  clear hw1
  obtain ⟨b2, hb2e⟩ : ∃ b, w.heap.size = b := ⟨_, rfl⟩
  obtain ⟨b4, hb4e⟩ : ∃ b, b2 + 1 = b := ⟨_, rfl⟩
  rw [hb2e] at X2 X4
  rw [hb4e] at X4
  rw [hb2e]
  rw [hb4e]
  have h2w : w.heap.size ≤ b2 := by omega
  have h4w : w.heap.size ≤ b4 := by omega
  have h24 : b2 ≠ b4 := by omega
  have h42 : b4 ≠ b2 := by omega
  clear hb2e hb4e
  go_wp2
  go_loopg [6] p.length (fun g vi wr => ∃ (i : Nat) (cur : TR), vi = .int .i64 i ∧ i ≤ p.length ∧ p.length - i ≤ g ∧ Cel wr b2 64 [cur.vv, cur.kv, cur.wv] ∧ Cel wr b4 64 [.slice none 0 0, .slice none 0 0, .slice none 0 0] ∧ TrOk w cur ∧ Sq cur.tr ∧ Hid (∀ r, SubI (p.drop i) cur.tr r → SubI p t.tr r) ∧ Below w.heap.size w wr)
  case atStart => exact ⟨0, t, rfl, Nat.zero_le _, Nat.le_refl _, X2, X4, ht, hq, Lib.hid (fun r h => h), B1⟩
  case round =>
    obtain ⟨i, cur, rfl, hi, hg, C2, C4, hcur, hsq, V, B⟩ := hrel
    by_cases hlt : i < p.length
    · have hltz : (i : Int) < (p.length : Int) := by omega
      obtain ⟨v, hv⟩ := getElem_of_lt hlt
      obtain ⟨b, off, e, d0, d1, d2⟩ := vals_at' (hp.keep B) hv
      cases e
      have HV := Lib.hid hv
      clear hv
      have q0 := C2.at_ (j := 0) rfl
      have q1 := C2.at_ (j := 1) rfl
      have q2 := C2.at_ (j := 2) rfl
      unfold strV at d2
      have a_z0 := AftB.cell d0
      have a_z1 := AftB.cell d1
      have a_z2 := AftB.cell d2
      have a_q0 := AftB.cell q0
      have a_q1 := AftB.cell q1
      have a_q2 := AftB.cell q2
      obtain ⟨r, hr⟩ : ∃ r, seekN cur.vs v = r := ⟨_, rfl⟩
      have hS : ∀ q : AftB wr, Calls Tryd.prog 59 #[.agg #[cur.vv, cur.kv, cur.wv], .agg #[.int .i64 v.t, .int .i64 v.n, .string ⟨v.s.toArray⟩]] q.w' fun e w'' => e = .returned (.int .i64 r) ∧ ∃ p : AftB wr, w'' = p.w' := fun q => AftB.call (by
        have h := rSeek_any cur v q.w' (hcur.keep ((B.trans (q.ok.mono B.size))))
        rw [hr] at h
        exact h)
      have HS := Lib.hid (show SrchOf (seekP cur.vs v) cur.vs.length r by rw [← hr]; exact seekN_srch _ _)
      clear hr
      go_upto_region 4 with fail
      refine wp_region_aftB (by kernel_rfl) (by kernel_rfl) ?_
      repeat (go_big_quiet_step ((exact hS _)))
      refine wpQuiet_nil ?_
      intro w5 B5
      clear hS a_z0 a_z1 a_z2 a_q0 a_q1 a_q2
      replace q0 := cell_keep B5 q0
      replace q1 := cell_keep B5 q1
      replace q2 := cell_keep B5 q2
      have z0 := cell_keep B5 d0
      have z1 := cell_keep B5 d1
      have z2 := cell_keep B5 d2
      have C2B := C2.keep B5
      have C4B := C4.keep B5
      have BW := B.trans (B5.mono B.size)
      have hrl := HS.out.1
      clear C2 C4
      have NONE := Lib.hid (show cur.vs[r]? ≠ some v → SubI p t.tr none from fun h => V.out _ (by
        rw [drop_cons HV.out]
        exact ⟨r, by rw [TR.tr_vs]; exact HS.out, .inl ⟨by rw [TR.tr_vs]; exact h, rfl⟩⟩))
      have SOME := Lib.hid (show ∀ k q, cur.vs[r]? = some v → cur.ks[r]? = some k → SubI (p.drop (i + 1)) k.tr q → SubI p t.tr q from fun k q h1 h2 h3 => V.out _ (by
        rw [drop_cons HV.out]
        exact ⟨r, by rw [TR.tr_vs]; exact HS.out, .inr ⟨k.tr, by rw [TR.tr_vs]; exact h1, by rw [TR.tr_ks, List.getElem?_map, h2]; rfl, h3⟩⟩))
      have hcv := hcur.vals.keep BW
      have a_z0 := AftB.cell z0
      have a_z1 := AftB.cell z1
      have a_z2 := AftB.cell z2
      have a_q0 := AftB.cell q0
      unfold TR.vv at a_q0
      clear d0 d1 d2 z0 z1 z2
      by_cases hre : r = cur.vs.length
      · have RES := Lib.hid (NONE.out (by rw [List.getElem?_eq_none (by omega)]; simp))
        obtain ⟨nv, hnv⟩ : ∃ n, cur.vs.length = n := ⟨_, rfl⟩
        rw [hnv] at hre a_q0
        have he : (((r : Nat) : Int) == ((nv : Nat) : Int)) = true := by rw [hre]; simp
        clear hre hrl hnv
        go_upto_region 5 with fail
        refine wp_region_aftB (by kernel_rfl) (by kernel_rfl) ?_
        repeat (go_big_quiet_step (fail))
        refine wpQuiet_nil ?_
        intro w6 B6
        clear a_z0 a_z1 a_z2 a_q0 q0 q1 q2
        replace C4B := C4B.keep B6
        have x0 := C4B.at_ (j := 0) rfl
        have x1 := C4B.at_ (j := 1) rfl
        have x2 := C4B.at_ (j := 2) rfl
        have e0 := C4B.free 0
        have e1 := C4B.free 1
        have e2 := C4B.free 2
        have Y := ((C4B.set 0 (.slice none 0 0)).set 1 (.slice none 0 0)).set 2 (.slice none 0 0)
        have BY := ((BW.trans (B6.mono BW.size)).setCell (p := ⟨b4, 0, none⟩) h4w (.slice none 0 0)).setCell (p := ⟨b4, 1, none⟩) h4w (.slice none 0 0) |>.setCell (p := ⟨b4, 2, none⟩) h4w (.slice none 0 0)
        obtain ⟨wZ, hwZ⟩ : ∃ z, ((w6.setCell ⟨b4, 0, none⟩ (.slice none 0 0)).setCell ⟨b4, 1, none⟩ (.slice none 0 0)).setCell ⟨b4, 2, none⟩ (.slice none 0 0) = z := ⟨_, rfl⟩
        rw [hwZ] at Y BY
        have v0 := Y.at_ (j := 0) rfl
        have v1 := Y.at_ (j := 1) rfl
        have v2 := Y.at_ (j := 2) rfl
        clear Y
        go_wp2
        try rw [hwZ]
        refine bodyPost_ret (v := .tuple #[.agg #[.slice none 0 0, .slice none 0 0, .slice none 0 0], .bool false]) (by simp [results, Tryd.results55, go_sem, v0, v1, v2]) rfl ?_
        exact ⟨noTr, false, rfl, noTr_ok _, noTr_sq, Lib.hid ⟨RES.out, fun _ => rfl⟩, BY⟩
      · have hrlt : r < cur.vs.length := by omega
        obtain ⟨x, hx⟩ := getElem_of_lt hrlt
        obtain ⟨bx, ox, ep, d0, d1, d2⟩ := vals_at' hcv hx
        rw [ep] at a_q0
        obtain ⟨q, hq⟩ : ∃ q, (!decide (x = v)) = q := ⟨_, rfl⟩
        have hqr : ∀ w, (binOp .neq 58 (.agg #[.int .i64 x.t, .int .i64 x.n, strV x.s]) (.agg #[.int .i64 v.t, .int .i64 v.n, strV v.s])).run Tryd.prog w = .ok (.bool q) w := fun w => by rw [← hq]; exact run_neq_vl x v w
        have hgd := run_guard_vl .neq
        have HQ := Lib.hid hq
        have HX := Lib.hid hx
        obtain ⟨nv, hnv⟩ : ∃ n, cur.vs.length = n := ⟨_, rfl⟩
        rw [hnv] at hrlt a_q0
        have he : (((r : Nat) : Int) == ((nv : Nat) : Int)) = false := by rw [beq_eq_false_iff_ne]; omega
        have hrz : ((r : Nat) : Int) < ((nv : Nat) : Int) := by omega
        clear hre hrl hq hx
        unfold strV at hqr
        unfold strV at d2
        have a_d0 := AftB.cell d0
        have a_d1 := AftB.cell d1
        have a_d2 := AftB.cell d2
        clear d0 d1 d2 hcv
        go_upto_region 5 with fail
        refine wp_region_aftB (by kernel_rfl) (by kernel_rfl) ?_
        repeat (go_big_quiet_step (fail))
        refine wpQuiet_nil ?_
        intro w6 B6
        clear a_z0 a_z1 a_z2 a_q0 a_d0 a_d1 a_d2 hqr hgd
        cases q with
        | true =>
          have RES := Lib.hid (NONE.out (by rw [HX.out]; intro e; injection e with e; have := HQ.out; rw [e] at this; simp at this))
          replace C4B := C4B.keep B6
          have x0 := C4B.at_ (j := 0) rfl
          have x1 := C4B.at_ (j := 1) rfl
          have x2 := C4B.at_ (j := 2) rfl
          have e0 := C4B.free 0
          have e1 := C4B.free 1
          have e2 := C4B.free 2
          have Y := ((C4B.set 0 (.slice none 0 0)).set 1 (.slice none 0 0)).set 2 (.slice none 0 0)
          have BY := ((BW.trans (B6.mono BW.size)).setCell (p := ⟨b4, 0, none⟩) h4w (.slice none 0 0)).setCell (p := ⟨b4, 1, none⟩) h4w (.slice none 0 0) |>.setCell (p := ⟨b4, 2, none⟩) h4w (.slice none 0 0)
          obtain ⟨wZ, hwZ⟩ : ∃ z, ((w6.setCell ⟨b4, 0, none⟩ (.slice none 0 0)).setCell ⟨b4, 1, none⟩ (.slice none 0 0)).setCell ⟨b4, 2, none⟩ (.slice none 0 0) = z := ⟨_, rfl⟩
          rw [hwZ] at Y BY
          have v0 := Y.at_ (j := 0) rfl
          have v1 := Y.at_ (j := 1) rfl
          have v2 := Y.at_ (j := 2) rfl
          clear Y
          go_wp2
          try rw [hwZ]
          refine bodyPost_ret (v := .tuple #[.agg #[.slice none 0 0, .slice none 0 0, .slice none 0 0], .bool false]) (by simp [results, Tryd.results55, go_sem, v0, v1, v2]) rfl ?_
          exact ⟨noTr, false, rfl, noTr_ok _, noTr_sq, Lib.hid ⟨RES.out, fun _ => rfl⟩, BY⟩
        | false =>
          have hxv : x = v := by have := HQ.out; simpa using this
          subst hxv
          replace C2B := C2B.keep B6
          replace C4B := C4B.keep B6
          have B7 := BW.trans (B6.mono BW.size)
          have hke : cur.ks.length = cur.vs.length := by have := hsq.eq; rwa [TR.tr_vs, TR.tr_ks, List.length_map] at this
          obtain ⟨k, hk⟩ := getElem_of_lt (l := cur.ks) (i := r) (by omega)
          obtain ⟨bk, ok, ek, k0, k1, k2, -⟩ := (hcur.keep B7).tries.at_ hk
          have hkm := List.mem_of_getElem? hk
          have hkt := hcur.sub k hkm
          have hks := hsq.sub k.tr (by rw [TR.tr_ks]; exact List.mem_map_of_mem hkm)
          have VN := Lib.hid (fun qq => SOME.out k qq HX.out hk)
          have x1 := C2B.at_ (j := 1) rfl
          unfold TR.kv at x1
          rw [ek] at x1
          obtain ⟨nk, hnk⟩ : ∃ n, cur.ks.length = n := ⟨_, rfl⟩
          rw [hnk] at x1 hke
          have hrk : ((r : Nat) : Int) < ((nk : Nat) : Int) := by omega
          have x0 := C2B.at_ (j := 0) rfl
          have x2 := C2B.at_ (j := 2) rfl
          have e0 := C2B.free 0
          have e1 := C2B.free 1
          have e2 := C2B.free 2
          have Y := ((C2B.set 0 k.vv).set 1 k.kv).set 2 k.wv
          have YO := ((C4B.other (p := ⟨b2, 0, none⟩) h42 k.vv).other (p := ⟨b2, 1, none⟩) h42 k.kv).other (p := ⟨b2, 2, none⟩) h42 k.wv
          have BY := ((B7.setCell (p := ⟨b2, 0, none⟩) h2w k.vv).setCell (p := ⟨b2, 1, none⟩) h2w k.kv).setCell (p := ⟨b2, 2, none⟩) h2w k.wv
          obtain ⟨wZ, hwZ⟩ : ∃ z, ((w6.setCell ⟨b2, 0, none⟩ k.vv).setCell ⟨b2, 1, none⟩ k.kv).setCell ⟨b2, 2, none⟩ k.wv = z := ⟨_, rfl⟩
          rw [hwZ] at Y YO BY
          clear hk hnk hkm q0 q1 q2 C2B C4B hke ek NONE SOME
          go_wp2
          go_roundg (p.length - (i + 1))
          case measure => omega
          case rel => exact ⟨i + 1, k, by go_num, hlt, Nat.le_refl _, by try rw [hwZ]
                                                                         exact Y, by try rw [hwZ]
                                                                                     exact YO, hkt, hks, VN, by try rw [hwZ]
                                                                                                                exact BY⟩
    · have hltz : ¬ (i : Int) < (p.length : Int) := by omega
      have RES := Lib.hid (V.out (some cur.tr) (by rw [List.drop_of_length_le (by omega)]; rfl))
      have q0 := C2.at_ (j := 0) rfl
      have q1 := C2.at_ (j := 1) rfl
      have q2 := C2.at_ (j := 2) rfl
      have x0 := C4.at_ (j := 0) rfl
      have x1 := C4.at_ (j := 1) rfl
      have x2 := C4.at_ (j := 2) rfl
      have e0 := C4.free 0
      have e1 := C4.free 1
      have e2 := C4.free 2
      have Y := ((C4.set 0 cur.vv).set 1 cur.kv).set 2 cur.wv
      have BY := ((B.setCell (p := ⟨b4, 0, none⟩) h4w cur.vv).setCell (p := ⟨b4, 1, none⟩) h4w cur.kv).setCell (p := ⟨b4, 2, none⟩) h4w cur.wv
      obtain ⟨wZ, hwZ⟩ : ∃ z, ((wr.setCell ⟨b4, 0, none⟩ cur.vv).setCell ⟨b4, 1, none⟩ cur.kv).setCell ⟨b4, 2, none⟩ cur.wv = z := ⟨_, rfl⟩
      rw [hwZ] at Y BY
      have v0 := Y.at_ (j := 0) rfl
      have v1 := Y.at_ (j := 1) rfl
      have v2 := Y.at_ (j := 2) rfl
      clear Y C2 C4
      go_wp2
      try rw [hwZ]
      refine bodyPost_ret (v := .tuple #[.agg #[cur.vv, cur.kv, cur.wv], .bool true]) (by simp [results, Tryd.results55, go_sem, v0, v1, v2]) rfl ?_
      exact ⟨cur, true, rfl, hcur.keep BY, hsq, Lib.hid ⟨RES.out, fun h => by cases h⟩, BY⟩
end Go.Proofs.YtdibijhaiaiifaaDoor
