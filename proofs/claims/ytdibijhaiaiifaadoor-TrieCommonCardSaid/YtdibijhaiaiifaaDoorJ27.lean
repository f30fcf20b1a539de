/- Parts Zi: words, walks and laws that the claims of this seat share. -/
import Derived.Test.YtdibijhaiaiifaaDoorJ23
import Derived.Test.YtdibijhaiaiifaaDoorJ24
import Derived.Test.YtdibijhaiaiifaaDoorJ26
/- The walk of the reference's build. -/
namespace Go.Proofs.YtdibijhaiaiifaaDoor
open Go.RowKit
def RBuildC (n : Nat) : Prop := ∀ (X : Nat → Prop) (p : Option Addr) (c : Nat) (l : List RR) (w : World), (∀ k, X k → k < w.heap.size) → (∀ W, Agree X w W → IsRel W (.slice p l.length c) l) → Gd n (rows l) → l.length ≤ 100000 → Calls Tryd.prog 102 #[.int .i64 n, .slice p l.length c] w (BuildR X n l w)
abbrev nil3 : List Value := [.slice none 0 0, .slice none 0 0, .slice none 0 0]
/-- The boxes of the result and of the trie that is made. -/
theorem box_out (w : World) : ∃ w1, (w.alloc (.cells #[.slice none 0 0, .slice none 0 0, .slice none 0 0] 64)).alloc (.cells #[.slice none 0 0, .slice none 0 0, .slice none 0 0] 64) = w1 ∧ Below w.heap.size w w1 ∧ Cel w1 w.heap.size 64 nil3 ∧ Cel w1 (w.heap.size + 1) 64 nil3 := by
  refine ⟨_, rfl, below_alloc' (below_new _ _), (Cel.new w 64 _).keep (below_new _ _), ?_⟩
  have := Cel.new (w.alloc (.cells #[.slice none 0 0, .slice none 0 0, .slice none 0 0] 64)) 64 nil3
  rw [World.size_alloc] at this
  exact this
set_option maxHeartbeats 4000000 in
set_option maxRecDepth 1000000 in
theorem rbuild_zero : RBuildC 0 := by
  intro X p c l w hX hl hgd hln
  go_enter Tryd.func102, Tryd.ntmps102
  go_upto_region 2 with fail
  obtain ⟨w1, hw1, B1, X4, X5⟩ := box_out w
  obtain ⟨b4, hb4e⟩ : ∃ b, w.heap.size = b := ⟨_, rfl⟩
  obtain ⟨b5, hb5e⟩ : ∃ b, b4 + 1 = b := ⟨_, rfl⟩
  rw [hw1]
  rw [hb4e, hb5e] at X5
  rw [hb4e] at X4
  rw [hb4e]
  rw [hb5e]
  have h54 : b4 ≠ b5 := by omega
  have h5w : w.heap.size ≤ b5 := by omega
  have h4w : w.heap.size ≤ b4 := by omega
  clear hb4e hb5e hw1
  rcases gd_zero hgd with e | ⟨s, e, -⟩
  · obtain rfl : l = [] := List.map_eq_nil_iff.1 e
    have HS : ∀ W, Agree X w W → IsSpans W (.slice none 0 0) [] := fun W _ => IsSpans.nil W
    have RES := Lib.hid (show Tr.mk [] [] [] = buildT 0 (rows []) from rfl)
    have C4 := X4
    have C5 := X5
    have B := B1
    clear X4 X5 B1 hl hgd e
    have y0 := C5.at_ (j := 0) rfl
    have y1 := C5.at_ (j := 1) rfl
    have y2 := C5.at_ (j := 2) rfl
    have x0 := C4.at_ (j := 0) rfl
    have x1 := C4.at_ (j := 1) rfl
    have x2 := C4.at_ (j := 2) rfl
    have f0 := C4.free 0
    have f1 := C4.free 1
    have f2 := C4.free 2
    have Z := ((C4.set 0 (.slice none 0 0)).set 1 (.slice none 0 0)).set 2 (.slice none 0 0)
    have z0 := Z.at_ (j := 0) rfl
    have z1 := Z.at_ (j := 1) rfl
    have z2 := Z.at_ (j := 2) rfl
    have BZ := ((B.setCell (p := ⟨b4, 0, none⟩) h4w (.slice none 0 0)).setCell (p := ⟨b4, 1, none⟩) h4w (.slice none 0 0)).setCell (p := ⟨b4, 2, none⟩) h4w (.slice none 0 0)
    obtain ⟨wZ, hwZ⟩ : ∃ z, ((w1.setCell ⟨b4, 0, none⟩ (.slice none 0 0)).setCell ⟨b4, 1, none⟩ (.slice none 0 0)).setCell ⟨b4, 2, none⟩ (.slice none 0 0) = z := ⟨_, rfl⟩
    rw [hwZ] at z0 z1 z2 BZ
    clear Z
    go_wp2
    try rw [hwZ]
    refine bodyPost_ret (v := .agg #[.slice none 0 0, .slice none 0 0, (.slice none 0 0)]) (by simp [results, Tryd.results102, go_sem, z0, z1, z2]) rfl ?_
    refine ⟨(.mk none 0 [] none 0 [] none 0 []), rfl, fun W hW => .mk _ (IsVals.nil W) ⟨none, 0, rfl, .inl rfl, by simp [TR.ks], by simp [TR.ks], by simp⟩ (HS W ((Agree.of_below BZ).trans hW)) (by intro k hk; cases hk), Lib.hid RES.out, BZ⟩
  · obtain ⟨x, rfl, hx⟩ : ∃ x, l = [x] ∧ x.rw = ([], s) := by
      cases l with
      | nil => cases e
      | cons x l =>
        cases l with
        | nil => exact ⟨x, rfl, by simpa [rows] using e⟩
        | cons y l => simp [rows] at e
    have HS : ∀ W, Agree X w W → IsSpans W (.slice x.pw x.s.length x.cw) x.s := fun W hW => ((hl W hW).2 x (List.mem_cons_self ..)).2
    have RES := Lib.hid (show Tr.mk [] [] x.s = buildT 0 (rows [x]) from rfl)
    obtain ⟨bb, off, e1, c0, c1, rx⟩ := (hl w1 (.of_below B1)).at_ (i := 0) (x := x) rfl
    cases e1
    simp only [Nat.zero_mul, Nat.add_zero] at c1
    have y5 := X5.at_ (j := 2) rfl
    have f5 := X5.free 2
    have C5 := X5.set 2 (.slice x.pw x.s.length x.cw)
    have C4 := X4.other (p := ⟨b5, 2, none⟩) h54 (.slice x.pw x.s.length x.cw)
    have B := B1.setCell (p := ⟨b5, 2, none⟩) h5w (.slice x.pw x.s.length x.cw)
    have hone : (0 : Int) < (([x].length : Nat) : Int) := by simp
    clear X4 X5 B1 hl hgd e rx
    have y0 := C5.at_ (j := 0) rfl
    have y1 := C5.at_ (j := 1) rfl
    have y2 := C5.at_ (j := 2) rfl
    have x0 := C4.at_ (j := 0) rfl
    have x1 := C4.at_ (j := 1) rfl
    have x2 := C4.at_ (j := 2) rfl
    have f0 := C4.free 0
    have f1 := C4.free 1
    have f2 := C4.free 2
    have Z := ((C4.set 0 (.slice none 0 0)).set 1 (.slice none 0 0)).set 2 (.slice x.pw x.s.length x.cw)
    have z0 := Z.at_ (j := 0) rfl
    have z1 := Z.at_ (j := 1) rfl
    have z2 := Z.at_ (j := 2) rfl
    have BZ := ((B.setCell (p := ⟨b4, 0, none⟩) h4w (.slice none 0 0)).setCell (p := ⟨b4, 1, none⟩) h4w (.slice none 0 0)).setCell (p := ⟨b4, 2, none⟩) h4w (.slice x.pw x.s.length x.cw)
    obtain ⟨wZ, hwZ⟩ : ∃ z, (((w1.setCell ⟨b5, 2, none⟩ (.slice x.pw x.s.length x.cw)).setCell ⟨b4, 0, none⟩ (.slice none 0 0)).setCell ⟨b4, 1, none⟩ (.slice none 0 0)).setCell ⟨b4, 2, none⟩ (.slice x.pw x.s.length x.cw) = z := ⟨_, rfl⟩
    rw [hwZ] at z0 z1 z2 BZ
    clear Z
    go_wp2
    try rw [hwZ]
    refine bodyPost_ret (v := .agg #[.slice none 0 0, .slice none 0 0, (.slice x.pw x.s.length x.cw)]) (by simp [results, Tryd.results102, go_sem, z0, z1, z2]) rfl ?_
    refine ⟨(.mk none 0 [] none 0 [] x.pw x.cw x.s), rfl, fun W hW => .mk _ (IsVals.nil W) ⟨none, 0, rfl, .inl rfl, by simp [TR.ks], by simp [TR.ks], by simp⟩ (HS W ((Agree.of_below BZ).trans hW)) (by intro k hk; cases hk), Lib.hid RES.out, BZ⟩
theorem rbuild_ts {n m c : Nat} {X : Nat → Prop} {D : List RR} {p : Option Addr} {w0 w : World} {Q : Ending → World → Prop} (hIH : ∀ W, Below w0.heap.size w0 W → Calls Tryd.prog 102 #[.int .i64 n, .slice p m c] W (BuildR X n D W)) (hb : Below w0.heap.size w0 w)
    (k : ∀ t w', (∀ W, Agree X w' W → TrOk W t) → Hid (t.tr = buildT n (rows D)) → Below w0.heap.size w0 w' → Q (.returned (.agg #[t.vv, t.kv, t.wv])) w') : Calls Tryd.prog 102 #[.int .i64 n, .slice p m c] w Q :=
  (hIH w hb).mono fun e w' ⟨t, he, h1, h2, h3⟩ => by
    subst he
    exact k t w' h1 h2 (below_trans hb h3)
set_option maxHeartbeats 8000000 in
set_option maxRecDepth 1000000 in
theorem rbuild_succ (n : Nat) (hn : n ≤ 1000) (IH : RBuildC n) : RBuildC (n + 1) := by
  intro X p c l w hX hl hgd hln
  have HGD := Lib.hid hgd
  have HBH := Lib.hid (build_hds hgd)
  clear hgd
  go_enter Tryd.func102, Tryd.ntmps102
  go_upto_region 2 with fail
  obtain ⟨w1, hw1, B1, X4, X5⟩ := box_out w
  obtain ⟨b4, hb4e⟩ : ∃ b, w.heap.size = b := ⟨_, rfl⟩
  obtain ⟨b5, hb5e⟩ : ∃ b, b4 + 1 = b := ⟨_, rfl⟩
  rw [hw1]
  rw [hb4e, hb5e] at X5
  rw [hb4e] at X4
  rw [hb4e]
  rw [hb5e]
  have h54 : b4 ≠ b5 := by omega
  have h5w : w.heap.size ≤ b5 := by omega
  have h4w : w.heap.size ≤ b4 := by omega
  clear hb4e hb5e hw1
  have hz : (((n + 1 : Nat) : Int) == 0) = false := by rw [beq_eq_false_iff_ne]; omega
  have hs5 : b5 < w1.heap.size := X5.lt
  have hs4 : b4 < w1.heap.size := X4.lt
  have HXW := Lib.hid (show ∀ k, X k → k < w1.heap.size from fun k hk => Nat.lt_of_lt_of_le (hX k hk) B1.size)
  have HLX := Lib.hid hl
  obtain ⟨N, hN⟩ : ∃ n, l.length = n := ⟨_, rfl⟩
  rw [hN] at hln HLX
  rw [hN]
  have HN := Lib.hid hN
  have hw1 : w.heap.size ≤ w1.heap.size := B1.size
  clear hl hN hX
  go_wp2
  go_loopg [6] N (fun g vi wr => ∃ (i : Nat) (pv : Option Addr) (cv : Nat) (vs : List Vl) (pk : Option Addr) (ck : Nat) (ks : List TR), vi = .int .i64 i ∧ i ≤ N ∧ N - i ≤ g ∧ vs.length ≤ 100000 ∧ ks.length ≤ 100000 ∧ Hid (vs = hdsN (rows l) i) ∧ Hid (ks.map TR.tr = (hdsN (rows l) i).map fun v => buildT n (under v (rows l))) ∧ BldI X b4 b5 w1.heap.size wr (.slice pv vs.length cv) vs (.slice pk ks.length ck) ks ∧ Below w.heap.size w wr ∧ Agree (fun k => k = b5 ∨ w1.heap.size ≤ k) w1 wr)
  case atStart => exact ⟨0, none, 0, [], none, 0, [], rfl, Nat.zero_le _, Nat.le_refl _, Nat.zero_le _, Nat.zero_le _, Lib.hid rfl, Lib.hid rfl, ⟨X4, X5, Owns.nil _ _, Owns.nil _ _, fun k h => (by cases h), by simp⟩, B1, Agree.refl _ _⟩
  case round =>
    obtain ⟨i, pv, cv, vs, pk, ck, ks, rfl, hi, hg, hv1, hk1, VV, VK, I, B, AG⟩ := hrel
    by_cases hlt : i < N
    · have hltz : (i : Int) < (N : Int) := by omega
      have hx3 : ∀ k, X3 X b4 b5 (.slice pv vs.length cv) (.slice pk ks.length ck) k → X k ∨ w.heap.size ≤ k := fun k hk => by
        rcases hk with hk | hk | hk | hk | hk
        · exact .inl hk
        · rw [hk]; exact .inr h4w
        · rw [hk]; exact .inr h5w
        · exact .inr (Nat.le_trans hw1 (I.ou.lt k hk).1)
        · exact .inr (Nat.le_trans hw1 (I.ov.lt k hk).1)
      have HLR := Lib.hid (show ∀ W, Agree (X3 X b4 b5 (.slice pv vs.length cv) (.slice pk ks.length ck)) wr W → IsRel W (.slice p N c) l from fun W hW => HLX.out W (Agree.step (Agree.of_below B) hW hx3))
      obtain ⟨x, hx⟩ := getElem_of_lt (l := l) (i := i) (by have := HN.out; omega)
      obtain ⟨rb, ro, ep, c0, -, rx⟩ := (HLR.out wr (Agree.refl _ _)).at_ hx
      obtain ⟨y, hy⟩ := hd_some HGD.out (i := i) (by rw [rows_length, HN.out]; exact hlt)
      have hyx : x.t[0]? = some y := by rw [hdAt_of (rows_at hx)] at hy; exact hy
      obtain ⟨vb, vo, ev, d0, d1, d2⟩ := vals_at' rx.vals hyx
      rw [Nat.zero_mul, Nat.add_zero] at d0 d1 d2
      have hxt : 0 < x.t.length := (List.getElem?_eq_some_iff.1 hyx).1
      have hxz : (0 : Int) < (x.t.length : Int) := by omega
      have hav : x.av = .slice (some ⟨vb, vo, none⟩) x.t.length x.ca := by show Value.slice x.pa _ _ = _; rw [ev]
      rw [hav] at c0
      have HY := Lib.hid hy
      have HEP := Lib.hid ep
      subst ep
      have hwb : w1.heap.size ≤ wr.heap.size := AG.size
      clear hx rx hy hyx hx3 ev hav
      unfold strV at d2
      obtain ⟨nx, hnx⟩ : ∃ m, x.t.length = m := ⟨_, rfl⟩
      rw [hnx] at c0 hxz hxt
      clear hnx
      obtain ⟨wC, hwC⟩ : ∃ z, wr.alloc (.cells #[.int .i64 0, .int .i64 0, .string ⟨#[]⟩] 58) = z := ⟨_, rfl⟩
      have BC : Below wr.heap.size wr wC := by rw [← hwC]; exact below_new _ _
      have XC : Cel wC wr.heap.size 58 [.int .i64 0, .int .i64 0, .string ⟨#[]⟩] := by rw [← hwC]; exact Cel.new wr 58 _
      obtain ⟨b7, hb7⟩ : ∃ b, wr.heap.size = b := ⟨_, rfl⟩
      rw [hb7] at XC BC
      have y0 := XC.at_ (j := 0) rfl
      have y1 := XC.at_ (j := 1) rfl
      have y2 := XC.at_ (j := 2) rfl
      have f0 := XC.free 0
      have f1 := XC.free 1
      have f2 := XC.free 2
      have Z := ((XC.set 0 (.int .i64 y.t)).set 1 (.int .i64 y.n)).set 2 (.string ⟨y.s.toArray⟩)
      have BZ := ((BC.setCell (p := ⟨b7, 0, none⟩) (Nat.le_refl _) (.int .i64 y.t)).setCell (p := ⟨b7, 1, none⟩) (Nat.le_refl _) (.int .i64 y.n)).setCell (p := ⟨b7, 2, none⟩) (Nat.le_refl _) (.string ⟨y.s.toArray⟩)
      obtain ⟨wB, hwB⟩ : ∃ z, ((wC.setCell ⟨b7, 0, none⟩ (.int .i64 y.t)).setCell ⟨b7, 1, none⟩ (.int .i64 y.n)).setCell ⟨b7, 2, none⟩ (.string ⟨y.s.toArray⟩) = z := ⟨_, rfl⟩
      rw [hwB] at Z BZ
      rw [← hb7] at BZ
      have z0 := Z.at_ (j := 0) rfl
      have z1 := Z.at_ (j := 1) rfl
      have z2 := Z.at_ (j := 2) rfl
      have IB := I.keep BZ
      have BB := B.trans (BZ.mono B.size)
      have AB := AG.trans (Agree.of_below2 (BZ.mono AG.size))
      have HLB := Lib.hid (show ∀ W, Agree (X3 X b4 b5 (.slice pv vs.length cv) (.slice pk ks.length ck)) wB W → IsRel W (.slice (some ⟨rb, ro, none⟩) N c) l from fun W hW => HLR.out W ((Agree.of_below BZ).trans hW))
      have a_z0 := AftB.cell z0
      have a_z1 := AftB.cell z1
      have a_z2 := AftB.cell z2
      have HB7 := Lib.hid hb7
      clear Z BC XC BZ I B AG HLR
      go_upto_region 10 with fail
      clear hwC hwB y0 y1 y2 f0 f1 f2 c0 d0 d1 d2
      obtain ⟨q0, hq0⟩ : ∃ q, (!newB (rows l) i) = q := ⟨_, rfl⟩
      have HQ0 := Lib.hid hq0
      go_cut [48] from 22 to 97 (fun v48 wx => v48 = .bool q0 ∧ Below wB.heap.size wB wx)
      case first =>
        by_cases hi0 : i = 0
        · subst hi0
          obtain rfl : q0 = false := by rw [← hq0]; rfl
          refine wp_region_aftB (by kernel_rfl) (by kernel_rfl) ?_
          repeat (go_big_quiet_step (fail))
          refine wpQuiet_nil ?_
          intro w6 B6
          clear a_z0 a_z1 a_z2
          go_wp2_with fail
          go_meet
          case rel => exact ⟨rfl, B6⟩
        · have hip : (0 : Int) < (i : Int) := by omega
          have hip' : 0 < i := by omega
          obtain ⟨i', hi'⟩ : ∃ i', i = i' + 1 := ⟨i - 1, by omega⟩
          have hi1 : (i : Int) - 1 = (i' : Int) := by omega
          have hi2 : (i' : Int) < (N : Int) := by omega
          have hwi : IntKind.i64.wrap (i' : Int) = (i' : Int) := by rw [IntKind.wrap_i64]; omega
          obtain ⟨x2, hx2⟩ := getElem_of_lt (l := l) (i := i') (by have := HN.out; omega)
          obtain ⟨_, _, ee, e0, -, rx2⟩ := (HLB.out wB (Agree.refl _ _)).at_ hx2
          cases ee
          obtain ⟨y2, hy2⟩ := hd_some HGD.out (i := i') (by rw [rows_length, HN.out]; omega)
          have hyx2 : x2.t[0]? = some y2 := by rw [hdAt_of (rows_at hx2)] at hy2; exact hy2
          obtain ⟨vb2, vo2, ev2, d0, d1, d2⟩ := vals_at' rx2.vals hyx2
          rw [Nat.zero_mul, Nat.add_zero] at d0 d1 d2
          have hxt2 : 0 < x2.t.length := (List.getElem?_eq_some_iff.1 hyx2).1
          have hxz2 : (0 : Int) < (x2.t.length : Int) := by omega
          have hav2 : x2.av = .slice (some ⟨vb2, vo2, none⟩) x2.t.length x2.ca := by show Value.slice x2.pa _ _ = _; rw [ev2]
          rw [hav2] at e0
          have hqr : ∀ w, (binOp .eql 58 (.agg #[.int .i64 y2.t, .int .i64 y2.n, strV y2.s]) (.agg #[.int .i64 y.t, .int .i64 y.n, strV y.s])).run Tryd.prog w = .ok (.bool q0) w := fun w => by
            have : q0 = decide (y2 = y) := by
              rw [← hq0, hi', newB_succ, hy2, ← hi', HY.out]
              by_cases e : y2 = y <;> simp [e]
            rw [this]; exact run_eq_vl y2 y w
          have hgd := run_guard_vl .eql
          unfold strV at hqr d2
          have a_e0 := AftB.cell e0
          have a_d0 := AftB.cell d0
          have a_d1 := AftB.cell d1
          have a_d2 := AftB.cell d2
          have HII := Lib.hid hi'
          clear hq0 hx2 rx2 hy2 hyx2 ev2 hav2 d0 d1 d2 e0 hi'
          refine wp_region_aftB (by kernel_rfl) (by kernel_rfl) ?_
          repeat (go_big_quiet_step (fail))
          refine wpQuiet_nil ?_
          intro w6 B6
          clear a_e0 a_d0 a_d1 a_d2 hqr hgd a_z0 a_z1 a_z2
          go_wp2_with fail
          go_meet
          case rel => exact ⟨rfl, B6⟩
      case rest =>
        obtain ⟨rfl, B6⟩ := hcut
        obtain ⟨w6, hw6⟩ : ∃ z, z = wc := ⟨_, rfl⟩
        rw [← hw6] at B6
        rw [← hw6]
        clear hw6 a_z0 a_z1 a_z2 hq0
        cases q0 with
        | true =>
          have OLD := Lib.hid (show newB (rows l) i = false by have := HQ0.out; simpa using this)
          have VVN := Lib.hid (show vs = hdsN (rows l) (i + 1) by rw [hds_old OLD.out, ← VV.out])
          have VKN := Lib.hid (show ks.map TR.tr = (hdsN (rows l) (i + 1)).map fun v => buildT n (under v (rows l)) by rw [hds_old OLD.out, ← VK.out])
          have I6 := IB.keep B6
          have BN := BB.trans (B6.mono BB.size)
          have AN := AB.trans (Agree.of_below2 (B6.mono AB.size))
          clear IB BB AB HLB
          go_wp2
          try rw [← HEP.out]
          go_roundg (N - (i + 1))
          case measure => omega
          case rel => exact ⟨i + 1, pv, cv, vs, pk, ck, ks, by go_num, hlt, Nat.le_refl _, hv1, hk1, VVN, VKN, I6, BN, AN⟩
        | false =>
          have NEW := Lib.hid (show newB (rows l) i = true by have := HQ0.out; simpa using this)
          replace IB := IB.keep B6
          replace BB := BB.trans (B6.mono BB.size)
          replace AB := AB.trans (Agree.of_below2 (B6.mono AB.size))
          have HL6 := Lib.hid (show ∀ W, Agree (X3 X b4 b5 (.slice pv vs.length cv) (.slice pk ks.length ck)) w6 W → IsRel W (.slice (some ⟨rb, ro, none⟩) N c) l from fun W hW => HLB.out W ((Agree.of_below B6).trans hW))
          replace z0 := cell_keep B6 z0
          replace z1 := cell_keep B6 z1
          replace z2 := cell_keep B6 z2
          clear HLB B6
          go_upto_region 12 with fail
          have BD := below_new w6 (.cells #[] 44)
          have HR0 : Owns 2 44 encR (w6.alloc (.cells #[] 44)) w6.heap.size (.slice (some ⟨w6.heap.size, 0, none⟩) 0 0) [] := Owns.lit w6
          obtain ⟨wD, hwD⟩ : ∃ z, w6.alloc (.cells #[] 44) = z := ⟨_, rfl⟩
          rw [hwD] at BD HR0
          rw [hwD]
          obtain ⟨pz, hpz⟩ : ∃ p : Option Addr, some ⟨w6.heap.size, 0, none⟩ = p := ⟨_, rfl⟩
          rw [hpz] at HR0
          rw [hpz]
          clear hwD hpz
          have hX6 : ∀ k, X3 X b4 b5 (.slice pv vs.length cv) (.slice pk ks.length ck) k → k < w6.heap.size := fun k hk => by
            rcases hk with hk | hk | hk | hk | hk
            · have := HXW.out k hk; have := AB.size; omega
            · have := AB.size; omega
            · have := AB.size; omega
            · exact (IB.ou.lt k hk).2
            · exact (IB.ov.lt k hk).2
          have HX6 := Lib.hid hX6
          have H80 : Hold 2 44 encR RowOk (X3 X b4 b5 (.slice pv vs.length cv) (.slice pk ks.length ck)) wD w6.heap.size (.slice pz 0 0) [] := ⟨HR0, by simp⟩
          clear HR0 hX6
          go_wp2
          go_loopg [8, 9] N (fun g v8 vk wr => ∃ (k : Nat) (T : List RR), vk = .int .i64 k ∧ i ≤ k ∧ k ≤ N ∧ N - k ≤ g ∧ Hold 2 44 encR RowOk (X3 X b4 b5 (.slice pv vs.length cv) (.slice pk ks.length ck)) wr w6.heap.size v8 T ∧ Hid (T = ((l.drop i).take (k - i)).map tailR) ∧ Hid (∀ j, i ≤ j → j < k → hdAt (rows l) j = some y) ∧ Below w6.heap.size w6 wr)
          case atStart => exact ⟨i, [], rfl, Nat.le_refl _, hi, Nat.sub_le _ _, H80, Lib.hid (by simp), Lib.hid (fun j h1 h2 => by omega), BD⟩
          case round =>
            obtain ⟨k, T, rfl, hik, hk, hgk, H8, VT, VJ, Bq⟩ := hrel
            clear H80 BD
            obtain ⟨p8, c8, rfl⟩ := H8.form
            have HLQ := Lib.hid (show ∀ W, Agree (X3 X b4 b5 (.slice pv vs.length cv) (.slice pk ks.length ck)) wr W → IsRel W (.slice (some ⟨rb, ro, none⟩) N c) l from fun W hW => HL6.out W ((Agree.of_below Bq).trans hW))
            have hTl : T.length ≤ 100000 := by rw [VT.out, List.length_map, List.length_take]; omega
            have u0 := cell_keep Bq z0
            have u1 := cell_keep Bq z1
            have u2 := cell_keep Bq z2
            have a_u0 := AftB.cell u0
            have a_u1 := AftB.cell u1
            have a_u2 := AftB.cell u2
            obtain ⟨q, hq⟩ : ∃ q, decide (hdAt (rows l) k = some y) = q := ⟨_, rfl⟩
            have HQ := Lib.hid hq
            go_upto_region 13 with fail
            go_cut [65] from 51 to 82 (fun v65 wx => v65 = .bool q ∧ Below wr.heap.size wr wx)
            case first =>
              by_cases hlk : k < N
              · have hlkz : (k : Int) < (N : Int) := by omega
                obtain ⟨x2, hx2⟩ := getElem_of_lt (l := l) (i := k) (by have := HN.out; omega)
                obtain ⟨_, _, ee, e0, -, rx2⟩ := (HLQ.out wr (Agree.refl _ _)).at_ hx2
                cases ee
                obtain ⟨y2, hy2⟩ := hd_some HGD.out (i := k) (by rw [rows_length, HN.out]; exact hlk)
                have hyx2 : x2.t[0]? = some y2 := by rw [hdAt_of (rows_at hx2)] at hy2; exact hy2
                obtain ⟨vb2, vo2, ev2, d0, d1, d2⟩ := vals_at' rx2.vals hyx2
                rw [Nat.zero_mul, Nat.add_zero] at d0 d1 d2
                have hxt2 : 0 < x2.t.length := (List.getElem?_eq_some_iff.1 hyx2).1
                have hxz2 : (0 : Int) < (x2.t.length : Int) := by omega
                have hav2 : x2.av = .slice (some ⟨vb2, vo2, none⟩) x2.t.length x2.ca := by show Value.slice x2.pa _ _ = _; rw [ev2]
                rw [hav2] at e0
                have hqr : ∀ w, (binOp .eql 58 (.agg #[.int .i64 y2.t, .int .i64 y2.n, strV y2.s]) (.agg #[.int .i64 y.t, .int .i64 y.n, strV y.s])).run Tryd.prog w = .ok (.bool q) w := fun w => by
                  have : q = decide (y2 = y) := by rw [← hq, hy2]; simp
                  rw [this]; exact run_eq_vl y2 y w
                have hgd := run_guard_vl .eql
                unfold strV at hqr d2
                have a_e0 := AftB.cell e0
                have a_d0 := AftB.cell d0
                have a_d1 := AftB.cell d1
                have a_d2 := AftB.cell d2
                clear hq hx2 rx2 hy2 hyx2 ev2 hav2 d0 d1 d2 e0
                refine wp_region_aftB (by kernel_rfl) (by kernel_rfl) ?_
                repeat (go_big_quiet_step (fail))
                refine wpQuiet_nil ?_
                intro w5 B5
                clear a_e0 a_d0 a_d1 a_d2 hqr hgd
                go_wp2_with fail
                go_meet
                case rel => exact ⟨rfl, B5⟩
              · have hlkz : ¬ (k : Int) < (N : Int) := by omega
                obtain rfl : q = false := by
                  rw [← hq]
                  refine decide_eq_false fun e => ?_
                  unfold hdAt at e
                  rw [List.getElem?_eq_none (by rw [rows_length, HN.out]; omega)] at e
                  cases e
                refine wp_region_aftB (by kernel_rfl) (by kernel_rfl) ?_
                repeat (go_big_quiet_step (fail))
                refine wpQuiet_nil ?_
                intro w5 B5
                go_wp2_with fail
                go_meet
                case rel => exact ⟨rfl, B5⟩
            case rest =>
              obtain ⟨rfl, B5⟩ := hcut
              obtain ⟨wg, hwg⟩ : ∃ z, z = wc := ⟨_, rfl⟩
              rw [← hwg] at B5
              rw [← hwg]
              clear hwg
              replace H8 := H8.keep B5
              have Bg := Bq.trans (B5.mono Bq.size)
              have HLG := Lib.hid (show ∀ W, Agree (X3 X b4 b5 (.slice pv vs.length cv) (.slice pk ks.length ck)) wg W → IsRel W (.slice (some ⟨rb, ro, none⟩) N c) l from fun W hW => HLQ.out W ((Agree.of_below B5).trans hW))
              replace u0 := cell_keep B5 u0
              replace u1 := cell_keep B5 u1
              replace u2 := cell_keep B5 u2
              clear a_u0 a_u1 a_u2 hq HLQ Bq B5
              cases q with
              | true =>
                have hkN : k < N := by
                  rcases Nat.lt_or_ge k N with h | h
                  · exact h
                  · have := of_decide_eq_true HQ.out
                    unfold hdAt at this
                    rw [List.getElem?_eq_none (by rw [rows_length, HN.out]; omega)] at this
                    cases this
                have hlkz : (k : Int) < (N : Int) := by omega
                obtain ⟨x2, hx2⟩ := getElem_of_lt (l := l) (i := k) (by have := HN.out; omega)
                obtain ⟨_, _, ee, e0, e1, rx2⟩ := (HLG.out wg (Agree.refl _ _)).at_ hx2
                cases ee
                have hyx2 : x2.t[0]? = some y := by
                  have := of_decide_eq_true HQ.out
                  rw [hdAt_of (rows_at hx2)] at this
                  exact this
                obtain ⟨vb2, vo2, hvp2, -⟩ := vals_at' rx2.vals hyx2
                have hxn := HGD.out.len _ (List.mem_of_getElem? (rows_at hx2))
                have hxn : x2.t.length = n + 1 := hxn
                have hta : (tailR x2).av = .slice (if x2.ca = 1 then some ⟨vb2, vo2, none⟩ else some ⟨vb2, vo2 + 3, none⟩) (x2.t.length - 1) (x2.ca - 1) := by
                  show Value.slice (match x2.pa with | some a => if x2.ca = 1 then some a else some ⟨a.block, a.off + 3, a.spot⟩ | none => none) (x2.t.drop 1).length (x2.ca - 1) = _
                  rw [hvp2, List.length_drop]
                have hxv2 : x2.av = .slice (some ⟨vb2, vo2, none⟩) x2.t.length x2.ca := by show Value.slice x2.pa _ _ = _; rw [hvp2]
                have hcx : x2.t.length ≤ x2.ca ∧ x2.ca ≤ 9223372036854775807 := by
                  obtain ⟨_, _, e, -, h1, h2, h3⟩ := rx2.vals
                  injection e with e1 e2 e3
                  omega
                have HT6 := Lib.hid (show ∀ W, Agree (X3 X b4 b5 (.slice pv vs.length cv) (.slice pk ks.length ck)) w6 W → RowOk W (tailR x2) from fun W hW => tailR_ok ((HL6.out W hW).2 x2 (List.mem_of_getElem? hx2)) (by omega))
                have VT2 := Lib.hid (show T ++ [tailR x2] = ((l.drop i).take (k + 1 - i)).map tailR by
                  rw [show k + 1 - i = (k - i) + 1 by omega, take_succ' (xs := l.drop i) (i := k - i) (x := x2) (by rw [List.getElem?_drop, show i + (k - i) = k by omega]; exact hx2), List.map_append, ← VT.out]; rfl)
                have VJ2 := Lib.hid (show ∀ j, i ≤ j → j < k + 1 → hdAt (rows l) j = some y from fun j h1 h2 => by
                  rcases Nat.lt_or_eq_of_le (Nat.le_of_lt_succ h2) with h2 | rfl
                  · exact VJ.out j h1 h2
                  · exact of_decide_eq_true HQ.out)
                have HXX := Lib.hid hx2
                rw [hxv2] at e0
                obtain ⟨nx2, hnx⟩ : ∃ m, x2.t.length = m := ⟨_, rfl⟩
                obtain ⟨cx2, hcx2⟩ : ∃ m, x2.ca = m := ⟨_, rfl⟩
                rw [hnx, hcx2] at e0 hcx hta
                rw [hnx] at hxn
                have HXN := Lib.hid hxn
                have HTA := Lib.hid hta
                have HXV := Lib.hid (show x2.av = .slice (some ⟨vb2, vo2, none⟩) nx2 cx2 by rw [hxv2, hnx, hcx2])
                have hnx1 : (1 : Int) ≤ (nx2 : Int) := by omega
                have hnx2 : (nx2 : Int) ≤ (cx2 : Int) := by omega
                have hnx3 : (1 : Int) ≤ (cx2 : Int) := by omega
                have HALL : ∀ W, Below wg.heap.size wg W → (fun w' => w'.cell? ⟨rb, ro + k * 2, none⟩ = some (.slice (some ⟨vb2, vo2, none⟩) nx2 cx2) ∧ w'.cell? ⟨rb, ro + k * 2 + 1, none⟩ = some x2.wv) W := fun W hW => ⟨cell_keep hW e0, cell_keep hW e1⟩
                have HS10 : ∀ (W : World), (∀ W', Agree (X3 X b4 b5 (.slice pv vs.length cv) (.slice pk ks.length ck)) W W' → IsRel W' (.slice (some ⟨rb, ro, none⟩) N c) l) → (fun w' => w'.cell? ⟨rb, ro + k * 2, none⟩ = some (.slice (some ⟨vb2, vo2, none⟩) nx2 cx2) ∧ w'.cell? ⟨rb, ro + k * 2 + 1, none⟩ = some x2.wv) W := fun W hR => by
                  obtain ⟨_, _, ee, e0', e1', -⟩ := (hR W (Agree.refl _ _)).at_ HXX.out
                  cases ee
                  rw [HXV.out] at e0'
                  exact ⟨e0', e1'⟩
                generalize hsv : (if cx2 = 1 then (some ⟨vb2, vo2, none⟩ : Option Addr) else some ⟨vb2, vo2 + 3, none⟩) = pa2 at hta
                have HTV := Lib.hid hta
                clear hx2 rx2 hyx2 hvp2 hxv2 hnx hcx2 hta e0 e1 hxn
                go_upto_region 15 with fail
                try simp only [List.append_eq, List.cons_append, List.nil_append]
                refine wp_region_noPanic ?_
                refine wp_region_late (fun w' => w'.cell? ⟨rb, ro + k * 2, none⟩ = some (.slice (some ⟨vb2, vo2, none⟩) nx2 cx2) ∧ w'.cell? ⟨rb, ro + k * 2 + 1, none⟩ = some x2.wv) 16 (by kernel_rfl) (HALL _ (Below.refl _ _).drew) (fun _ => ?_)
                obtain ⟨wd, hwd⟩ : ∃ x : World, wg.drew = x := ⟨_, rfl⟩
                have bD : Below wg.heap.size wg wd := by rw [← hwd]; exact (Below.refl _ _).drew
                rw [hwd]
                clear hwd
                have hHeld := HALL _ bD
                have bM := below_new wd (.cells #[.slice pa2 (nx2 - 1) (cx2 - 1), x2.wv] 44)
                have hm9 : IsRows 2 encR (wd.alloc (.cells #[.slice pa2 (nx2 - 1) (cx2 - 1), x2.wv] 44)) (.slice (some ⟨wd.heap.size, 0, none⟩) 1 1) [tailR x2] := by
                  have := IsRows.lit (e := 44) wd [tailR x2] encsR (by simp)
                  have e : ([tailR x2].flatMap encR) = [.slice pa2 (nx2 - 1) (cx2 - 1), x2.wv] := by
                    show [(tailR x2).av, (tailR x2).wv] = _
                    rw [HTV.out]; rfl
                  rw [e] at this
                  exact this
                have hmo9 : ∀ u ∈ [tailR x2], Off RowOk (wd.alloc (.cells #[.slice pa2 (nx2 - 1) (cx2 - 1), x2.wv] 44)) (Ex (.slice p8 T.length c8) (X3 X b4 b5 (.slice pv vs.length cv) (.slice pk ks.length ck))) u := fun u hu W hW => by
                  rw [List.mem_singleton.1 hu]
                  refine HT6.out W (Agree.step (Agree.of_below (Bg.trans ((bD.trans (bM.mono bD.size)).mono Bg.size))) hW fun k hk => ?_)
                  rcases hk with hk | hk
                  · exact .inr (H8.1.lt k hk).1
                  · exact .inl hk
                refine any_take (by kernel_rfl) (i := 0) (oi := _) (v := ?_) rfl rfl (by kernel_rfl) (by kernel_rfl) (by kernel_rfl) (fun _ _ _ h => h) (Or.inl ⟨by rfl, ?_⟩) hHeld ?_
                rotate_left
                · intro w' hSw; try dsimp only at hSw
                  go_simp
                  try with_reducible rfl
                try simp only [puts, gets]
                refine any_take (by kernel_rfl) (i := 1) (oi := _) (v := ?_) rfl rfl (by kernel_rfl) (by kernel_rfl) (by kernel_rfl) (fun _ _ _ h => h) (Or.inl ⟨by rfl, ?_⟩) hHeld ?_
                rotate_left
                · intro w' hSw; try dsimp only at hSw
                  go_simp
                  try with_reducible rfl
                try simp only [puts, gets]
                refine any_take (by kernel_rfl) (i := 2) (oi := _) (v := ?_) rfl rfl (by kernel_rfl) (by kernel_rfl) (by kernel_rfl) (fun _ _ _ h => h) (Or.inl ⟨by rfl, ?_⟩) hHeld ?_
                rotate_left
                · intro w' hSw; try dsimp only at hSw
                  go_simp
                  try with_reducible rfl
                try simp only [puts, gets]
                refine any_take (by kernel_rfl) (i := 3) (oi := _) (v := ?_) rfl rfl (by kernel_rfl) (by kernel_rfl) (by kernel_rfl) (fun _ _ _ h => h) (Or.inl ⟨by rfl, ?_⟩) hHeld ?_
                rotate_left
                · intro w' hSw; try dsimp only at hSw
                  go_simp
                  try with_reducible rfl
                try simp only [puts, gets]
                refine any_take (by kernel_rfl) (i := 4) (oi := _) (v := ?_) rfl rfl (by kernel_rfl) (by kernel_rfl) (by kernel_rfl) (fun _ _ _ h => h) (Or.inl ⟨by rfl, ?_⟩) hHeld ?_
                rotate_left
                · intro w' hSw; try dsimp only at hSw
                  go_simp
                  try with_reducible rfl
                try simp only [puts, gets]
                refine any_take (by kernel_rfl) (i := 5) (oi := _) (v := ?_) rfl rfl (by kernel_rfl) (by kernel_rfl) (by kernel_rfl) (fun _ _ _ h => h) (Or.inl ⟨by rfl, ?_⟩) hHeld ?_
                rotate_left
                · intro w' hSw; try dsimp only at hSw
                  go_simp
                  try with_reducible rfl
                try simp only [puts, gets]
                refine any_take (by kernel_rfl) (i := 6) (oi := _) (v := ?_) rfl rfl (by kernel_rfl) (by kernel_rfl) (by kernel_rfl) (fun _ _ _ h => h) (Or.inl ⟨by rfl, ?_⟩) hHeld ?_
                rotate_left
                · intro w' hSw; try dsimp only at hSw
                  go_simp
                  try with_reducible rfl
                try simp only [puts, gets]
                refine any_take (by kernel_rfl) (i := 7) (oi := _) (v := ?_) rfl rfl (by kernel_rfl) (by kernel_rfl) (by kernel_rfl) (fun _ _ _ h => h) (Or.inl ⟨by rfl, ?_⟩) hHeld ?_
                rotate_left
                · intro w' hSw; try dsimp only at hSw
                  go_simp
                  try with_reducible rfl
                try simp only [puts, gets]
                refine any_take (by kernel_rfl) (i := 8) (oi := _) (v := ?_) rfl rfl (by kernel_rfl) (by kernel_rfl) (by kernel_rfl) (fun _ _ _ h => h) (Or.inl ⟨by rfl, ?_⟩) hHeld ?_
                rotate_left
                · intro w' hSw; try dsimp only at hSw
                  go_simp
                  try with_reducible rfl
                try simp only [puts, gets]
                refine any_take (by kernel_rfl) (i := 9) (oi := _) (v := ?_) rfl rfl (by kernel_rfl) (by kernel_rfl) (by kernel_rfl) (fun _ _ _ h => h) (Or.inl ⟨by rfl, ?_⟩) hHeld ?_
                rotate_left
                · intro w' hSw; try dsimp only at hSw
                  go_simp
                  try with_reducible rfl
                try simp only [puts, gets]
                refine any_take (by kernel_rfl) (i := 10) (oi := _) (v := ?_) rfl rfl (by kernel_rfl) (by kernel_rfl) (by kernel_rfl) (fun _ _ _ h => h) (Or.inl ⟨by rfl, ?_⟩) hHeld ?_
                rotate_left
                · intro w' hSw; try dsimp only at hSw
                  go_simp
                  try with_reducible rfl
                try simp only [puts, gets]
                refine any_take (by kernel_rfl) (i := 11) (oi := _) (v := ?_) rfl rfl (by kernel_rfl) (by kernel_rfl) (by kernel_rfl) (fun _ _ _ h => h) (Or.inl ⟨by rfl, ?_⟩) hHeld ?_
                rotate_left
                · intro w' hSw; try dsimp only at hSw
                  go_simp
                  try with_reducible rfl
                try simp only [puts, gets]
                refine any_take (by kernel_rfl) (i := 12) (oi := _) (v := ?_) rfl rfl (by kernel_rfl) (by kernel_rfl) (by kernel_rfl) (fun _ _ _ h => h) (Or.inl ⟨by rfl, ?_⟩) hHeld ?_
                rotate_left
                · intro w' hSw; try dsimp only at hSw
                  go_simp
                  try with_reducible rfl
                try simp only [puts, gets]
                refine any_next (i := 13) (by kernel_rfl) rfl rfl (fun K hK => ?_)
                go_simp
                refine hK.out _ _ ?_ (fun hHeld => ?_)
                · exact HALL _ (bD.trans (bM.mono bD.size))
                clear hK K
                try simp only [puts, gets]
                refine any_next (i := 14) (by kernel_rfl) rfl rfl (fun K hK => ?_)
                refine step_holdU (wr := wg) (v := .slice p8 T.length c8) fitsR24 encsR (by rfl) (.tmp 68) (.tmp 81) (by rfl) (by rfl) (by rfl) H8 (bD.trans (bM.mono bD.size)) hm9 hmo9 Bg.size (by omega) (by simp) ?_
                intro p10 c10 w10 H10 B10 hG10 hU10
                rw [show (T ++ [tailR x2]).length = T.length + 1 from by simp] at H10 hU10
                rw [show (T ++ [tailR x2]).length = T.length + 1 from by simp]
                have B11 := Bg.trans B10
                have HL10 : ∀ W, Agree (X3 X b4 b5 (.slice pv vs.length cv) (.slice pk ks.length ck)) w10 W → IsRel W (.slice (some ⟨rb, ro, none⟩) N c) l := fun W hW => HL6.out W ((Agree.of_below B11).trans hW)
                refine hK.out _ _ ?_ (fun hHeld => ?_)
                · exact HS10 _ HL10
                clear hK K
                try simp only [puts, gets]
                refine any_take (by kernel_rfl) (i := 15) (oi := _) (v := ?_) rfl rfl (by kernel_rfl) (by kernel_rfl) (by kernel_rfl) (fun _ _ _ h => h) (Or.inl ⟨by rfl, ?_⟩) hHeld ?_
                rotate_left
                · intro w' hSw; try dsimp only at hSw
                  go_simp
                  try with_reducible rfl
                try simp only [puts, gets]
                refine any_done (by kernel_rfl) ?_ _
                refine NoPanic.normal ?_
                clear hG10 hU10 hmo9 hm9 bM HALL HS10 bD HL10
                go_wp2
                go_roundg (N - (k + 1))
                case measure => omega
                case rel => exact ⟨k + 1, _, by go_num, by omega, hkN, Nat.le_refl _, H10, VT2, VJ2, B11⟩
              | false =>
                have hik2 : i < k := by
                  rcases Nat.lt_or_eq_of_le hik with h | h
                  · exact h
                  · exact absurd (by rw [← h]; exact HY.out) (of_decide_eq_false HQ.out)
                have HU := Lib.hid (show rows T = under y (rows l) by
                  rw [← under_run HGD.out NEW.out HY.out hik2 (by rw [rows_length, HN.out]; exact hk) VJ.out (.inr (of_decide_eq_false HQ.out)), VT.out, rows_tail]
                  unfold rows
                  rw [List.map_take, List.map_drop])
                have HGT := Lib.hid (show Gd n (rows T) by rw [HU.out]; exact under_gd HGD.out y)
                have IG := IB.keep Bg
                have BG := BB.trans (Bg.mono BB.size)
                have AGG := AB.trans (Agree.of_below2 (Bg.mono AB.size))
                have bX := below_new wg (.cells #[.int .i64 y.t, .int .i64 y.n, .string ⟨y.s.toArray⟩] 58)
                have hmr : IsRows 3 encVl (wg.alloc (.cells #[.int .i64 y.t, .int .i64 y.n, .string ⟨y.s.toArray⟩] 58)) (.slice (some ⟨wg.heap.size, 0, none⟩) 1 1) [y] := IsRows.lit wg [y] encsV (by simp)
                have y5 := IG.c5.at_ (j := 0) rfl
                have hwg : w1.heap.size ≤ wg.heap.size := AGG.size
                have HROW := Lib.hid (show ∀ W, Agree (X3 X b4 b5 (.slice pv vs.length cv) (.slice pk ks.length ck)) wg W → IsRel W (.slice p8 T.length c8) T from fun W hW => (H8.agree hW HX6.out).rel (by omega))
                clear IB BB AB HL6 HLG Bg H8
                go_upto_region 17 with (at_builtin; refine wpList_own fitsV encsV rfl _ _ rfl rfl rfl IG.ou bX hmr hwg (by omega) (by simp) ?_; intro p9 c9 w9 H9 B9 hG9 hU9; rw [show (vs ++ [y]).length = vs.length + 1 from by simp] at H9 hU9; rw [show (vs ++ [y]).length = vs.length + 1 from by simp]; have hV := IG.val hs4 hs5 h54.symm.symm bX H9 hG9 hU9; have y9 := hV.1.at_ (j := 0) rfl; have f9 := hV.1.free 0)
                have A9 : Agree (X3 X b4 b5 (.slice pv vs.length cv) (.slice pk ks.length ck)) wg (w9.setCell ⟨b5, 0, none⟩ (.slice p9 (vs.length + 1) c9)) := ((Agree.of_below bX).trans (.of_grown hG9 fun k hk => .inr (.inr (.inr (.inl hk))))).set (.inr (.inr (.inl rfl)))
                have B10 := (BG.trans (B9.mono hw1)).setCell (p := ⟨b5, 0, none⟩) h5w (.slice p9 (vs.length + 1) c9)
                have AG10 : Agree (fun k => k = b5 ∨ w1.heap.size ≤ k) w1 (w9.setCell ⟨b5, 0, none⟩ (.slice p9 (vs.length + 1) c9)) := (AGG.trans (Agree.of_below2 B9)).set (.inl rfl)
                have I10 := hV.2
                obtain ⟨w10, hw10⟩ : ∃ z, w9.setCell ⟨b5, 0, none⟩ (.slice p9 (vs.length + 1) c9) = z := ⟨_, rfl⟩
                rw [hw10] at A9 I10 B10 AG10
                rw [hw10]
                have HRW := Lib.hid (show Off (fun W (_ : Unit) => IsRel W (.slice p8 T.length c8) T) w10 (X3 X b4 b5 (.slice p9 (vs.length + 1) c9) (.slice pk ks.length ck)) () from Off.next (fun a b h k => IsRel.keep k h) (fun W hW => HROW.out W hW) A9 fun k hk => by
                  rcases hk with hk | hk | hk | hk | hk
                  · exact .inl (.inl hk)
                  · exact .inl (.inr (.inl hk))
                  · exact .inl (.inr (.inr (.inl hk)))
                  · rcases hU9 with e | e
                    · exact .inl (.inr (.inr (.inr (.inl (e.symm.trans hk)))))
                    · rw [e] at hk; injection hk with hk
                      exact .inr (by rw [← hk]; exact bX.size)
                  · exact .inl (.inr (.inr (.inr (.inr hk)))))
                clear hw10 y5 y9 f9 hV hG9 hU9 H9 A9 hmr bX IG B9 AGG BG HROW
                have hX10 : ∀ k, (X3 X b4 b5 (.slice p9 (vs.length + 1) c9) (.slice pk ks.length ck)) k → k < w10.heap.size := fun k hk => by
                  rcases hk with hk | hk | hk | hk | hk
                  · have := HXW.out k hk; have := AG10.size; omega
                  · have := AG10.size; omega
                  · have := AG10.size; omega
                  · exact (I10.ou.lt k hk).2
                  · exact (I10.ov.lt k hk).2
                have hIH : ∀ W, Below w10.heap.size w10 W → Calls Tryd.prog 102 #[.int .i64 n, .slice p8 T.length c8] W (BuildR (X3 X b4 b5 (.slice p9 (vs.length + 1) c9) (.slice pk ks.length ck)) n T W) := fun W hW => IH (X3 X b4 b5 (.slice p9 (vs.length + 1) c9) (.slice pk ks.length ck)) p8 c8 T W (fun k hk => Nat.lt_of_lt_of_le (hX10 k hk) hW.size) (fun W' hW' => HRW.out W' ((Agree.of_below hW).trans hW')) HGT.out (by omega)
                have hn1 : (((n + 1 : Nat) : Int) - 1) = (n : Int) := by omega
                have hwn : IntKind.i64.wrap (n : Int) = (n : Int) := by rw [IntKind.wrap_i64]; omega
                have HS : ∀ W, Below w10.heap.size w10 W → W.cell? ⟨b5, 1, none⟩ = some (.slice pk ks.length ck) := fun W hW => (I10.c5.keep hW).at_ (j := 1) rfl
                have hs10 : w1.heap.size ≤ w10.heap.size := AG10.size
                try simp only [List.append_eq, List.cons_append, List.nil_append]
                refine wp_region_noPanic ?_
                refine wp_region_late (fun w' => w'.cell? ⟨b5, 1, none⟩ = some (.slice pk ks.length ck)) 9 (by kernel_rfl) (HS _ (Below.refl _ _).drew) (fun _ => ?_)
                obtain ⟨wd, hwd⟩ : ∃ x : World, w10.drew = x := ⟨_, rfl⟩
                have bD : Below w10.heap.size w10 wd := by rw [← hwd]; exact (Below.refl _ _).drew
                rw [hwd]
                clear hwd
                have hHeld := HS _ bD
                refine any_take (by kernel_rfl) (i := 0) (oi := _) (v := ?_) rfl rfl (by kernel_rfl) (by kernel_rfl) (by kernel_rfl) (fun _ _ _ h => h) (Or.inl ⟨by rfl, ?_⟩) hHeld ?_
                rotate_left
                · intro w' hSw; try dsimp only at hSw
                  go_simp
                  try with_reducible rfl
                try simp only [puts, gets]
                refine any_take (by kernel_rfl) (i := 1) (oi := _) (v := ?_) rfl rfl (by kernel_rfl) (by kernel_rfl) (by kernel_rfl) (fun _ _ _ h => h) (Or.inl ⟨by rfl, ?_⟩) hHeld ?_
                rotate_left
                · intro w' hSw; try dsimp only at hSw
                  go_simp
                  try with_reducible rfl
                try simp only [puts, gets]
                refine any_take (by kernel_rfl) (i := 2) (oi := _) (v := ?_) rfl rfl (by kernel_rfl) (by kernel_rfl) (by kernel_rfl) (fun _ _ _ h => h) (Or.inl ⟨by rfl, ?_⟩) hHeld ?_
                rotate_left
                · intro w' hSw; try dsimp only at hSw
                  go_simp
                  try with_reducible rfl
                try simp only [puts, gets]
                refine any_take (by kernel_rfl) (i := 3) (oi := _) (v := ?_) rfl rfl (by kernel_rfl) (by kernel_rfl) (by kernel_rfl) (fun _ _ _ h => h) (Or.inl ⟨by rfl, ?_⟩) hHeld ?_
                rotate_left
                · intro w' hSw; try dsimp only at hSw
                  go_simp
                  try with_reducible rfl
                try simp only [puts, gets]
                refine any_take (by kernel_rfl) (i := 4) (oi := _) (v := ?_) rfl rfl (by kernel_rfl) (by kernel_rfl) (by kernel_rfl) (fun _ _ _ h => h) (Or.inl ⟨by rfl, ?_⟩) hHeld ?_
                rotate_left
                · intro w' hSw; try dsimp only at hSw
                  go_simp
                  try with_reducible rfl
                try simp only [puts, gets]
                refine any_next (i := 5) (by kernel_rfl) rfl rfl (fun K hK => ?_)
                go_simp
                go_at_call 102
                refine rbuild_ts (w0 := w10) hIH bD ?_
                intro t wK hT HTT BK
                refine hK.out _ _ ?_ (fun hHeld => ?_)
                · exact HS _ BK
                clear hK K
                try simp only [puts, gets]
                have I12 := I10.keep BK
                have bX := below_new wK (.cells #[t.vv, t.kv, t.wv] 64)
                have hmr : IsRows 3 encK (wK.alloc (.cells #[t.vv, t.kv, t.wv] 64)) (.slice (some ⟨wK.heap.size, 0, none⟩) 1 1) [t] := IsRows.lit (e := 64) wK [t] encsK (by simp)
                have hsK : w1.heap.size ≤ wK.heap.size := Nat.le_trans hs10 BK.size
                refine any_next (i := 6) (by kernel_rfl) rfl rfl (fun K hK => ?_)
                go_simp
                refine hK.out _ _ ?_ (fun hHeld => ?_)
                · exact HS _ (BK.trans (bX.mono BK.size))
                clear hK K
                try simp only [puts, gets]
                refine any_next (i := 7) (by kernel_rfl) rfl rfl (fun K hK => ?_)
                refine step_own (wr := wK) (v := .slice pk ks.length ck) fitsK encsK (by rfl) (.tmp 90) (.tmp 95) (by rfl) (by rfl) (by rfl) I12.ov bX hmr hsK (by omega) (by simp) ?_
                intro p7 c7 w8 H7 B8 hG8 hU8
                rw [show (ks ++ [t]).length = ks.length + 1 from by simp] at H7 hU8
                rw [show (ks ++ [t]).length = ks.length + 1 from by simp]
                have hW8 := I12.trie hs4 hs5 h54.symm.symm bX H7 hG8 hU8 (fun z hz => by rw [List.mem_singleton.1 hz]; intro W hW; exact hT W ((Agree.of_below bX).trans hW))
                have f8 := hW8.1.free 1
                refine hK.out _ _ ?_ (fun hHeld => ?_)
                · exact hW8.1.at_ (j := 1) rfl
                clear hK K
                try simp only [puts, gets]
                refine any_take (by kernel_rfl) (i := 8) (oi := _) (v := ?_) rfl rfl (by kernel_rfl) (by kernel_rfl) (by kernel_rfl) (fun _ _ _ h => h) (Or.inl ⟨by rfl, ?_⟩) hHeld ?_
                rotate_left
                · intro w' hSw; try dsimp only at hSw
                  go_simp
                  try with_reducible rfl
                try simp only [puts, gets]
                refine any_late (i := 9) (by kernel_rfl) rfl rfl (fun K hK => ?_)
                go_simp
                refine hK.out _ _ ?_
                clear hK K
                try simp only [puts, gets]
                refine any_done (by kernel_rfl) ?_ _
                refine NoPanic.normal ?_
                have VVN := Lib.hid (show vs ++ [y] = hdsN (rows l) (i + 1) by rw [hds_new NEW.out HY.out, ← VV.out])
                have VKN := Lib.hid (show (ks ++ [t]).map TR.tr = (hdsN (rows l) (i + 1)).map fun v => buildT n (under v (rows l)) by
                  rw [hds_new NEW.out HY.out, List.map_append, List.map_append, VK.out, List.map_cons, HTT.out, HU.out]; rfl)
                have hvl2 : (vs ++ [y]).length ≤ 100000 := by
                  rw [VVN.out]; exact Nat.le_trans (hds_len _ _) (by omega)
                have hkl2 : (ks ++ [t]).length ≤ 100000 := by
                  have := congrArg List.length VKN.out
                  rw [List.length_map, List.length_map] at this
                  rw [this]; exact Nat.le_trans (hds_len _ _) (by omega)
                have BN := ((B10.trans (BK.mono (Nat.le_trans hw1 hs10))).trans (B8.mono hw1)).setCell (p := ⟨b5, 1, none⟩) h5w (.slice p7 (ks.length + 1) c7)
                have AN := ((AG10.trans (Agree.of_below2 (BK.mono hs10))).trans (Agree.of_below2 B8)).set (p := ⟨b5, 1, none⟩) (v := .slice p7 (ks.length + 1) c7) (.inl rfl)
                have I8 := hW8.2
                clear hT I12 I10 HS hW8 f8 hmr bX hG8 hU8 H7 hIH
                go_wp2
                try rw [← HEP.out]
                go_roundg (N - (i + 1))
                case measure => omega
                case rel => exact ⟨i + 1, p9, c9, vs ++ [y], p7, c7, ks ++ [t], by go_num, hlt, Nat.le_refl _, hvl2, hkl2, VVN, VKN, by rw [List.length_append, List.length_append]; exact I8, BN, AN⟩
    · have hltz : ¬ (i : Int) < (N : Int) := by omega
      have y0 := I.c5.at_ (j := 0) rfl
      have y1 := I.c5.at_ (j := 1) rfl
      have y2 := I.c5.at_ (j := 2) rfl
      have x0 := I.c4.at_ (j := 0) rfl
      have x1 := I.c4.at_ (j := 1) rfl
      have x2 := I.c4.at_ (j := 2) rfl
      have f0 := I.c4.free 0
      have f1 := I.c4.free 1
      have f2 := I.c4.free 2
      have Z := ((I.c4.set 0 (.slice pv vs.length cv)).set 1 (.slice pk ks.length ck)).set 2 (.slice none 0 0)
      have z0 := Z.at_ (j := 0) rfl
      have z1 := Z.at_ (j := 1) rfl
      have z2 := Z.at_ (j := 2) rfl
      have BZ := ((B.setCell (p := ⟨b4, 0, none⟩) h4w (.slice pv vs.length cv)).setCell (p := ⟨b4, 1, none⟩) h4w (.slice pk ks.length ck)).setCell (p := ⟨b4, 2, none⟩) h4w (.slice none 0 0)
      have AZ : Agree (X3 X b4 b5 (.slice pv vs.length cv) (.slice pk ks.length ck)) wr (((wr.setCell ⟨b4, 0, none⟩ (.slice pv vs.length cv)).setCell ⟨b4, 1, none⟩ (.slice pk ks.length ck)).setCell ⟨b4, 2, none⟩ (.slice none 0 0)) := (((Agree.refl _ _).set (.inr (.inl rfl))).set (.inr (.inl rfl))).set (.inr (.inl rfl))
      have AY : Agree (fun k => X k ∨ k = b4) wr (((wr.setCell ⟨b4, 0, none⟩ (.slice pv vs.length cv)).setCell ⟨b4, 1, none⟩ (.slice pk ks.length ck)).setCell ⟨b4, 2, none⟩ (.slice none 0 0)) := (((Agree.refl _ _).set (.inr rfl)).set (.inr rfl)).set (.inr rfl)
      obtain ⟨wZ, hwZ⟩ : ∃ z, ((wr.setCell ⟨b4, 0, none⟩ (.slice pv vs.length cv)).setCell ⟨b4, 1, none⟩ (.slice pk ks.length ck)).setCell ⟨b4, 2, none⟩ (.slice none 0 0) = z := ⟨_, rfl⟩
      rw [hwZ] at z0 z1 z2 BZ AZ AY
      clear Z
      go_wp2
      try rw [hwZ]
      refine bodyPost_ret (v := .agg #[.slice pv vs.length cv, .slice pk ks.length ck, .slice none 0 0]) (by simp [results, Tryd.results102, go_sem, z0, z1, z2]) rfl ?_
      refine ⟨.mk pv cv vs pk ck ks none 0 [], rfl, fun W hW => ?_, Lib.hid ?_, BZ⟩
      · have hA : Agree (X3 X b4 b5 (.slice pv vs.length cv) (.slice pk ks.length ck)) wr W := AZ.trans (hW.mono fun k hk => .inl hk)
        have hA2 : Agree (fun k => X k ∨ k = b4) wr W := AY.trans (hW.mono fun k hk => .inl hk)
        have hlow : ∀ k, (X k ∨ k = b4) → k < w1.heap.size := fun k hk => by
          rcases hk with hk | hk
          · exact HXW.out k hk
          · omega
        exact .mk _ ((I.ou.agree hA2 hlow).is encsV (by omega)) ((I.ov.agree hA2 hlow).is encsK (by omega)) (IsSpans.nil W) fun t ht => I.kid t ht W hA
      · have hjl : i = N := by omega
        have hv := VV.out
        have hk := VK.out
        rw [hjl, ← HN.out, ← rows_length] at hv hk
        show Tr.mk vs (TR.trs ks) [] = buildT (n + 1) (rows l)
        rw [trs_map, hk, hv, HBH.out]
theorem rbuild_all : ∀ n : Nat, n ≤ 1000 → RBuildC n
  | 0, _ => rbuild_zero
  | n + 1, h => rbuild_succ n (by omega) (rbuild_all n (by omega))
end Go.Proofs.YtdibijhaiaiifaaDoor
