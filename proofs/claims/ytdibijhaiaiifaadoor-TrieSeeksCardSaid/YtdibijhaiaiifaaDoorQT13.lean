/- The walk of the law TrieSeeks. -/
import Derived.Test.YtdibijhaiaiifaaDoorJ31
import Derived.Test.YtdibijhaiaiifaaDoorJ30
namespace Go.Proofs.YtdibijhaiaiifaaDoor
open Go.RowKit
set_option maxHeartbeats 8000000 in
set_option maxRecDepth 1000000 in
theorem law13_any (columns : Int) (va : Value) (v z : Vl) (xs : List RR) (w : World) (hT : Tab w) (ha : IsRel w va xs) : Calls Tryd.prog 13 #[.int .i64 columns, va, valV v, valV z] w fun e w' => e = .returned (.bool true) ∧ Below w.heap.size w w' := by
  obtain ⟨pa, ca, rfl, -⟩ := ha.shape
  unfold valV strV
  have V := Cel.new w 58 [.int .i64 v.t, .int .i64 v.n, .string ⟨v.s.toArray⟩]
  have Z := Cel.new (w.alloc (.cells #[.int .i64 v.t, .int .i64 v.n, .string ⟨v.s.toArray⟩] 58)) 58 [.int .i64 z.t, .int .i64 z.n, .string ⟨z.s.toArray⟩]
  have B1 := below_alloc' (o := .cells #[.int .i64 z.t, .int .i64 z.n, .string ⟨z.s.toArray⟩] 58) (below_new w (.cells #[.int .i64 v.t, .int .i64 v.n, .string ⟨v.s.toArray⟩] 58))
  replace V := V.keep (below_new _ (.cells #[.int .i64 z.t, .int .i64 z.n, .string ⟨z.s.toArray⟩] 58))
  rw [World.size_alloc] at Z
  go_enter Tryd.func13, Tryd.ntmps13
  go_upto_region 1 with fail
  obtain ⟨w1, hw1⟩ : ∃ y, (w.alloc (.cells #[.int .i64 v.t, .int .i64 v.n, .string ⟨v.s.toArray⟩] 58)).alloc (.cells #[.int .i64 z.t, .int .i64 z.n, .string ⟨z.s.toArray⟩] 58) = y := ⟨_, rfl⟩
  replace V : Cel w1 w.heap.size 58 [.int .i64 v.t, .int .i64 v.n, .string ⟨v.s.toArray⟩] := by rw [← hw1]; exact V
  replace Z : Cel w1 (w.heap.size + 1) 58 [.int .i64 z.t, .int .i64 z.n, .string ⟨z.s.toArray⟩] := by rw [← hw1]; exact Z
  rw [hw1] at B1
  rw [hw1]
  clear hw1
  obtain ⟨b6, hb6⟩ : ∃ b, w.heap.size = b := ⟨_, rfl⟩
  obtain ⟨b7, hb7⟩ : ∃ b, b6 + 1 = b := ⟨_, rfl⟩
  rw [hb6] at V Z
  rw [hb7] at Z
  rw [hb6]
  rw [hb7]
  clear hb6 hb7
  replace hT := hT.keep B1
  replace ha := ha.keep B1
  go_wp2_with fail
  refine (thead_any _ hT).mono ?_
  rintro e w2 ⟨rfl, bN⟩
  replace hT := hT.keep bN
  replace ha := ha.keep bN
  replace V := V.keep bN
  replace Z := Z.keep bN
  replace B1 := below_trans B1 bN
  clear bN
  go_wp2_with fail
  refine (fewR_any _ xs _ ha).mono ?_
  rintro e w3 ⟨rfl, bN⟩
  replace hT := hT.keep bN
  replace ha := ha.keep bN
  replace V := V.keep bN
  replace Z := Z.keep bN
  replace B1 := below_trans B1 bN
  clear bN
  cases hf : fewR xs
  · clear hf
    go_wp2
    go_ret
    exact ⟨rfl, B1⟩
  have HX := Lib.hid ((fewR_sml hf).mono (m := 10000) (by decide))
  clear hf
  go_wp2_with fail
  refine (TBuild_any _ columns xs _ hT ha HX.out).mono ?_
  rintro e w4 ⟨t, rfl, ht, HT, bN⟩
  unfold trV
  obtain ⟨hinc, hlen, -, -⟩ := built_facts HT.out HX.out
  have HI := Lib.hid hinc
  have HL := Lib.hid hlen
  replace V := V.keep bN
  replace Z := Z.keep bN
  replace B1 := below_trans B1 bN
  clear bN hT ha hinc hlen HT
  have X := Cel.new w4 64 [t.vv, t.kv, t.wv]
  have bN := below_new w4 (.cells #[t.vv, t.kv, t.wv] 64)
  go_upto_region 5 with fail
  obtain ⟨w5, hw5⟩ : ∃ y, w4.alloc (.cells #[t.vv, t.kv, t.wv] 64) = y := ⟨_, rfl⟩
  replace X : Cel w5 w4.heap.size 64 [t.vv, t.kv, t.wv] := by rw [← hw5]; exact X
  rw [hw5] at bN
  rw [hw5]
  clear hw5
  obtain ⟨b10, hb10⟩ : ∃ b, w4.heap.size = b := ⟨_, rfl⟩
  rw [hb10] at X
  rw [hb10]
  clear hb10
  replace ht := ht.keep bN
  replace V := V.keep bN
  replace Z := Z.keep bN
  replace B1 := below_trans B1 bN
  clear bN
  have x0 := X.at_ (j := 0) rfl
  have x1 := X.at_ (j := 1) rfl
  have x2 := X.at_ (j := 2) rfl
  have v0 := V.at_ (j := 0) rfl
  have v1 := V.at_ (j := 1) rfl
  have v2 := V.at_ (j := 2) rfl
  have hS := seekInc_any t v w5 ht HL.out HI.out
  unfold trV valV strV at hS
  go_wp2_with fail
  refine hS.mono ?_
  rintro e w6 ⟨rfl, bN⟩
  clear hS
  replace ht := ht.keep bN
  replace V := V.keep bN
  replace Z := Z.keep bN
  replace X := X.keep bN
  replace B1 := below_trans B1 bN
  replace x0 := X.at_ (j := 0) rfl
  replace v0 := V.at_ (j := 0) rfl
  replace v1 := V.at_ (j := 1) rfl
  replace v2 := V.at_ (j := 2) rfl
  clear bN x1 x2
  obtain ⟨r, hr⟩ : ∃ r, seekN t.vs v = r := ⟨_, rfl⟩
  rw [hr]
  have hrl : r ≤ t.vs.length := by rw [← hr]; exact seekN_le _ _
  have HR := Lib.hid hr
  have hvs := ht.vals
  unfold TR.vv at x0 hvs
  obtain ⟨nv, hnv⟩ : ∃ n, t.vs.length = n := ⟨_, rfl⟩
  have hnl : nv ≤ 100000 := by rw [← hnv]; exact HL.out
  rw [hnv] at x0 hvs hrl
  have HN := Lib.hid hnv
  have hr0 : ¬ (r : Int) < 0 := by omega
  have hr1 : ¬ (nv : Int) < (r : Int) := by omega
  have hr2 : decide ((r : Int) < 0) = false := decide_eq_false hr0
  have hr3 : decide (nv < r) = false := decide_eq_false (by omega)
  clear hr hnv
  go_wp2
  go_loopg [12] nv (fun g vi wr => ∃ i : Nat, vi = .int .i64 i ∧ i ≤ nv ∧ nv - i ≤ g ∧ Below w6.heap.size w6 wr)
  case atStart => exact ⟨0, rfl, Nat.zero_le _, Nat.le_refl _, Below.refl _ _⟩
  case round =>
    obtain ⟨i, rfl, hi, hg, B⟩ := hrel
    have x0' := cell_keep B x0
    by_cases hlt : i < nv
    · have hltz : (i : Int) < (nv : Int) := by omega
      obtain ⟨x, hx⟩ := getV (l := t.vs) (i := i) (by have := HN.out; omega)
      obtain ⟨b1, o1, e, c0, c1, c2⟩ := vals_at' (hvs.keep B) hx
      rw [e] at x0'
      unfold strV at c2
      obtain ⟨c, hc⟩ : ∃ c, cmpV x v = c := ⟨_, rfl⟩
      have HCI := Lib.hid (show c < 0 ↔ i < r by rw [← hc, ← HR.out]; exact seekN_at HI.out hx)
      have HC := Lib.hid hc
      have a_v0 := AftB.cell (cell_keep B v0)
      have a_v1 := AftB.cell (cell_keep B v1)
      have a_v2 := AftB.cell (cell_keep B v2)
      have a_c0 := AftB.cell c0
      have a_c1 := AftB.cell c1
      have a_c2 := AftB.cell c2
      have a_x0 := AftB.cell x0'
      clear hx hc c0 c1 c2
      by_cases hir : i < r
      · have hirz : (i : Int) < (r : Int) := by omega
        have hc0 : c < 0 := HCI.out.2 hir
        go_upto_region 11 with fail
        refine wp_region_aftB (by kernel_rfl) (by kernel_rfl) ?_
        repeat (go_big_quiet_step ((exact compare_aftB HC.out _)))
        refine wpQuiet_nil ?_
        intro w7 B7
        have BB := B.trans (B7.mono B.size)
        clear a_v0 a_v1 a_v2 a_c0 a_c1 a_c2 a_x0 x0'
        go_wp2
        try rw [← e]
        go_roundg (nv - (i + 1))
        case measure => omega
        case rel => exact ⟨i + 1, by go_num, hlt, Nat.le_refl _, BB⟩
      · have hirz : ¬ (i : Int) < (r : Int) := by omega
        have hc0 : ¬ c < 0 := fun h => hir (HCI.out.1 h)
        go_upto_region 11 with fail
        refine wp_region_aftB (by kernel_rfl) (by kernel_rfl) ?_
        repeat (go_big_quiet_step ((exact compare_aftB HC.out _)))
        refine wpQuiet_nil ?_
        intro w7 B7
        have BB := B.trans (B7.mono B.size)
        clear a_v0 a_v1 a_v2 a_c0 a_c1 a_c2 a_x0 x0'
        go_wp2
        try rw [← e]
        go_roundg (nv - (i + 1))
        case measure => omega
        case rel => exact ⟨i + 1, by go_num, hlt, Nat.le_refl _, BB⟩
    · have hltz : ¬ (i : Int) < (nv : Int) := by omega
      replace V := V.keep B
      replace Z := Z.keep B
      replace X := X.keep B
      replace ht := ht.keep B
      replace B1 := below_trans B1 B
      replace v0 := V.at_ (j := 0) rfl
      replace v1 := V.at_ (j := 1) rfl
      replace v2 := V.at_ (j := 2) rfl
      have z0 := Z.at_ (j := 0) rfl
      have z1 := Z.at_ (j := 1) rfl
      have z2 := Z.at_ (j := 2) rfl
      obtain ⟨c, hc⟩ : ∃ c, cmpV v z = c := ⟨_, rfl⟩
      have hCmp := fun W => Compare_any v z W
      unfold valV strV at hCmp
      rw [hc] at hCmp
      have HC := Lib.hid hc
      clear hc
      go_wp2_with fail
      refine (hCmp _).mono ?_
      rintro e w7 ⟨rfl, g7⟩
      have bN := g7.below
      clear hCmp g7
      by_cases hc0 : 0 < c
      · go_wp2
        go_ret
        exact ⟨rfl, below_trans B1 bN⟩
      · have hc1 : c ≤ 0 := by omega
        replace Z := Z.keep bN
        replace X := X.keep bN
        replace ht := ht.keep bN
        replace B1 := below_trans B1 bN
        replace z0 := Z.at_ (j := 0) rfl
        replace z1 := Z.at_ (j := 1) rfl
        replace z2 := Z.at_ (j := 2) rfl
        have x0 := X.at_ (j := 0) rfl
        have x1 := X.at_ (j := 1) rfl
        have x2 := X.at_ (j := 2) rfl
        have hS := seekInc_any t z w7 ht HL.out HI.out
        unfold trV valV strV at hS
        obtain ⟨s, hs⟩ : ∃ s, seekN t.vs z = s := ⟨_, rfl⟩
        rw [hs] at hS
        have hrs : (r : Int) ≤ (s : Int) := by
          have := seekN_mono HI.out (show cmpV v z ≤ 0 by rw [HC.out]; exact hc1)
          rw [HR.out, hs] at this
          omega
        clear hs
        go_wp2_with fail
        refine hS.mono ?_
        rintro e w8 ⟨rfl, bN⟩
        clear hS
        go_wp2
        go_ret
        exact ⟨rfl, below_trans B1 bN⟩
end Go.Proofs.YtdibijhaiaiifaaDoor
