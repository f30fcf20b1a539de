/- Parts Zl, Zn: words, walks and laws that the claims of this seat share. -/
import Derived.Test.YtdibijhaiaiifaaDoorJ28
/- The walk of the given program's Common. -/
namespace Go.Proofs.YtdibijhaiaiifaaDoor
open Go.RowKit
/-! ### the plain steps of the leap -/
def ltV (y u : Vl) : Bool := decide (cmpV u y < 0)
def Rising (C : List Vl) : Prop := C.Pairwise fun a b => cmpV a b < 0
theorem rising_of {vs : List Vl} (h : IncV vs) : Rising vs := by
  unfold Rising
  rw [List.pairwise_iff_getElem]
  intro i j hi hj hij
  exact h i j _ _ (List.getElem?_eq_getElem hi) (List.getElem?_eq_getElem hj) hij
theorem incV_of {vs : List Vl} (h : Rising vs) : IncV vs := fun i k a b ha hb hik => by
  obtain ⟨hi, rfl⟩ := List.getElem?_eq_some_iff.1 ha
  obtain ⟨hk, rfl⟩ := List.getElem?_eq_some_iff.1 hb
  exact List.pairwise_iff_getElem.1 h i k hi hk hik
theorem cut_all {C : List Vl} {y : Vl} (h : ∀ u ∈ C, cmpV u y < 0) : C.filter (ltV y) = C := List.filter_eq_self.2 fun u hu => decide_eq_true (h u hu)
theorem cut_same {C : List Vl} {y z : Vl} (h : ∀ u ∈ C, cmpV u z < 0 ↔ cmpV u y < 0) : C.filter (ltV z) = C.filter (ltV y) := List.filter_congr fun u hu => by
  unfold ltV; rw [decide_eq_decide]; exact h u hu
theorem cut_next {C : List Vl} {y z : Vl} (hC : Rising C) (hy : y ∈ C) (hyz : cmpV y z < 0) (h : ∀ u ∈ C, cmpV u z < 0 → ¬ cmpV y u < 0) : C.filter (ltV z) = C.filter (ltV y) ++ [y] := by
  obtain ⟨A, B, rfl⟩ := List.append_of_mem hy
  unfold Rising at hC
  rw [List.pairwise_append, List.pairwise_cons] at hC
  obtain ⟨-, ⟨hB, -⟩, hA⟩ := hC
  have a1 : ∀ u ∈ A, cmpV u y < 0 := fun u hu => hA u hu y (List.mem_cons_self ..)
  have e1 : A.filter (ltV y) = A := cut_all a1
  have e2 : A.filter (ltV z) = A := cut_all fun u hu => cmpV_is.trans _ _ _ (a1 u hu) hyz
  have e3 : B.filter (ltV y) = [] := List.filter_eq_nil_iff.2 fun u hu => by
    have := hB u hu
    have k := cmpV_is.anti y u
    unfold ltV; rw [decide_eq_true_iff]; omega
  have e4 : B.filter (ltV z) = [] := List.filter_eq_nil_iff.2 fun u hu => by
    unfold ltV; rw [decide_eq_true_iff]
    exact fun q => h u (List.mem_append_right _ (List.mem_cons_of_mem _ hu)) q (hB u hu)
  rw [List.filter_append, List.filter_append, List.filter_cons, List.filter_cons, e1, e2, e3, e4]
  have q1 : ltV z y = true := decide_eq_true hyz
  have q2 : ltV y y = false := decide_eq_false (by rw [cmpV_is.refl]; omega)
  rw [q1, q2]
  simp
theorem cut_last {C : List Vl} {y : Vl} (hC : Rising C) (hy : y ∈ C) (h : ∀ u ∈ C, ¬ cmpV y u < 0) : C = C.filter (ltV y) ++ [y] := by
  obtain ⟨A, B, rfl⟩ := List.append_of_mem hy
  unfold Rising at hC
  rw [List.pairwise_append, List.pairwise_cons] at hC
  obtain ⟨-, ⟨hB, -⟩, hA⟩ := hC
  have e1 : A.filter (ltV y) = A := cut_all fun u hu => hA u hu y (List.mem_cons_self ..)
  obtain rfl : B = [] := by
    cases B with
    | nil => rfl
    | cons b B => exact absurd (hB b (List.mem_cons_self ..)) (h b (by simp))
  have q2 : ltV y y = false := decide_eq_false (by rw [cmpV_is.refl]; omega)
  rw [List.filter_append, e1, List.filter_cons, q2]
  simp
theorem common_rising {ts : List Tr} (h : ∀ t ∈ ts, IncV t.vs) : Rising (commonL ts) := by
  cases ts with
  | nil => exact List.Pairwise.nil
  | cons t ts => exact (rising_of (h t (List.mem_cons_self ..))).filter _
theorem mem_common {ts : List Tr} {v : Vl} (hne : ts ≠ []) : v ∈ commonL ts ↔ ∀ t ∈ ts, v ∈ t.vs := by
  cases ts with
  | nil => exact absurd rfl hne
  | cons t ts =>
    show v ∈ t.vs.filter (allIn (t :: ts)) ↔ _
    rw [List.mem_filter]
    unfold allIn
    rw [List.all_eq_true]
    constructor
    · intro h u hu; simpa using h.2 u hu
    · intro h
      exact ⟨h t (List.mem_cons_self ..), fun u hu => decide_eq_true (h u hu)⟩
/-- How many values of the tries are still ahead. -/
def ahead (ts : List Tr) (y : Vl) : Nat := (ts.flatMap Tr.vs).countP fun u => decide (cmpV y u < 0)
theorem countP_lt {α : Type} {p q : α → Bool} {l : List α} {z : α} (h : ∀ u, q u = true → p u = true) (hz : z ∈ l) (hp : p z = true) (hq : q z = false) : l.countP q < l.countP p := by
  obtain ⟨A, B, rfl⟩ := List.append_of_mem hz
  rw [List.countP_append, List.countP_append, List.countP_cons, List.countP_cons, hp, hq]
  have h1 : A.countP q ≤ A.countP p := List.countP_mono_left fun u _ => h u
  have h2 : B.countP q ≤ B.countP p := List.countP_mono_left fun u _ => h u
  simp; omega
theorem ahead_lt {ts : List Tr} {y z : Vl} {t : Tr} (ht : t ∈ ts) (hz : z ∈ t.vs) (h : cmpV y z < 0) : ahead ts z < ahead ts y := by
  refine countP_lt (z := z) (fun u hu => ?_) (List.mem_flatMap.2 ⟨t, ht, hz⟩) (decide_eq_true h) (decide_eq_false (by rw [cmpV_is.refl]; omega))
  rw [decide_eq_true_iff] at hu ⊢
  exact cmpV_is.trans _ _ _ h hu
theorem lt_of_ge {x y : Vl} (h : ¬ cmpV x y < 0) (hne : x ≠ y) : cmpV y x < 0 := by
  have h0 : cmpV x y ≠ 0 := fun e => hne ((cmpV_is.eq x y).1 e)
  have := cmpV_is.anti x y
  omega
/-- No value of a trie between y and the one that Seek finds. -/
theorem leap_gap {vs : List Vl} {y z u : Vl} (h : IncV vs) (hz : vs[seekN vs y]? = some z) (hu : u ∈ vs) : cmpV u z < 0 ↔ cmpV u y < 0 := by
  obtain ⟨i, hi⟩ := List.mem_iff_getElem?.1 hu
  rw [show cmpV u y < 0 ↔ i < seekN vs y from seekN_at h hi]
  constructor
  · intro q
    rcases Nat.lt_or_ge i (seekN vs y) with k | k
    · exact k
    · exfalso
      rcases Nat.lt_or_eq_of_le k with k | k
      · have := cmpV_is.trans _ _ _ q (h _ _ _ _ hz hi k)
        rw [cmpV_is.refl] at this; omega
      · rw [k] at hz
        rw [hz] at hi
        injection hi with hi
        rw [hi, cmpV_is.refl] at q; omega
  · intro q
    exact h _ _ _ _ hi hz q
theorem leap_end {vs : List Vl} {y u : Vl} (h : IncV vs) (hz : seekN vs y = vs.length) (hu : u ∈ vs) : cmpV u y < 0 := by
  obtain ⟨i, hi⟩ := List.mem_iff_getElem?.1 hu
  rw [seekN_at h hi, hz]
  exact (List.getElem?_eq_some_iff.1 hi).1
theorem seekInc_any (t : TR) (y : Vl) (w : World) (ht : TrOk w t) (hn : t.vs.length ≤ 100000) (hi : IncV t.vs) :
    Calls Tryd.prog 58 #[trV t, valV y] w fun e w' => e = .returned (.int .i64 (seekN t.vs y)) ∧ Below w.heap.size w w' :=
  (Seek_any t y w ht (by omega)).mono fun e w' ⟨r, h1, h2, h3⟩ => ⟨by rw [h1, srch_eq hi h2.out], h3⟩
theorem getT {l : List TR} {i : Nat} (h : i < l.length) : ∃ x, l[i]? = some x := ⟨_, List.getElem?_eq_getElem h⟩
set_option maxHeartbeats 8000000 in
set_option maxRecDepth 1000000 in
theorem Common_any (va : Value) (ts : List TR) (w : World) (ht : IsTries w va ts) (hl : ∀ t ∈ ts, t.vs.length ≤ 100000) (hi : ∀ t ∈ ts, IncV t.vs) (hn : ts.length ≤ 1000) :
    Calls Tryd.prog 65 #[va] w (ComRet (ts.map TR.tr) w) := by
  obtain ⟨pa, ca, rfl, -⟩ := ht.shape
  cases ts with
  | nil =>
    have hI := IsVals.nil w
    go_enter Tryd.func65, Tryd.ntmps65
    go_wp2
    go_step3
    go_wp2
    try rw [Exit.noGoto_ret]
    go_ret
    exact ⟨_, [], rfl, hI, Lib.hid rfl, Below.refl _ _⟩
  | cons t ts =>
    obtain ⟨n, hnn⟩ : ∃ n, (t :: ts).length = n := ⟨_, rfl⟩
    have hn0 : 0 < n := by rw [← hnn]; simp
    have hnz : (0 : Int) < (n : Int) := by omega
    have hnb : ((n : Int) == 0) = false := by rw [beq_eq_false_iff_ne]; omega
    have ht0 := ht.2 t (List.mem_cons_self ..)
    have hl0 := hl t (List.mem_cons_self ..)
    obtain ⟨bl, ol, e, c0, c1, c2, -⟩ := ht.at_ (i := 0) (x := t) rfl
    cases e
    rw [Nat.zero_mul, Nat.add_zero] at c0 c1 c2
    rw [hnn] at ht hn
    rw [hnn]
    have HNN := Lib.hid hnn
    have HLL := Lib.hid hl
    have HII := Lib.hid hi
    clear hl hnn hi
    unfold TR.vv at c0
    obtain ⟨nv, hnv⟩ : ∃ n, t.vs.length = n := ⟨_, rfl⟩
    rw [hnv] at c0 hl0
    have HNV := Lib.hid hnv
    have HTV := Lib.hid (show ∀ W, Below w.heap.size w W → IsVals W (.slice t.pv nv t.cv) t.vs from fun W hW => by rw [← hnv]; exact (ht0.keep hW).vals)
    clear hnv ht0
    by_cases hv0 : nv = 0
    · subst hv0
      have hI := IsVals.nil w
      have RES := Lib.hid (show [] = commonL ((t :: ts).map TR.tr) by
        show [] = t.tr.vs.filter (allIn ((t :: ts).map TR.tr))
        rw [TR.tr_vs, List.eq_nil_of_length_eq_zero HNV.out]; rfl)
      go_enter Tryd.func65, Tryd.ntmps65
      go_wp2
      go_step3
      go_wp2
      try rw [Exit.noGoto_ret]
      go_ret
      exact ⟨_, [], rfl, hI, RES, Below.refl _ _⟩
    have hvz : ((nv : Int) == 0) = false := by rw [beq_eq_false_iff_ne]; omega
    have hvp : (0 : Int) < (nv : Int) := by omega
    obtain ⟨y, hy⟩ := getV (l := t.vs) (i := 0) (by have := HNV.out; omega)
    obtain ⟨bv, ov, ev, d0, d1, d2⟩ := vals_at' (HTV.out w (Below.refl _ _)) hy
    rw [Nat.zero_mul, Nat.add_zero] at d0 d1 d2
    have c0' := c0
    rw [ev] at c0'
    unfold strV at d2
    go_enter Tryd.func65, Tryd.ntmps65
    go_wp2
    go_step3
    go_wp2
    have Y1 := Cel.new w 58 [.int .i64 y.t, .int .i64 y.n, .string ⟨y.s.toArray⟩]
    have B1 := below_new w (.cells #[.int .i64 y.t, .int .i64 y.n, .string ⟨y.s.toArray⟩] 58)
    obtain ⟨w1, hw1⟩ : ∃ z, w.alloc (.cells #[.int .i64 y.t, .int .i64 y.n, .string ⟨y.s.toArray⟩] 58) = z := ⟨_, rfl⟩
    have Y1 : Cel w1 w.heap.size 58 [.int .i64 y.t, .int .i64 y.n, .string ⟨y.s.toArray⟩] := by rw [← hw1]; exact Y1
    rw [hw1] at B1
    rw [hw1]
    have hs1 : w.heap.size < w1.heap.size := Y1.lt
    obtain ⟨b4, hb4⟩ : ∃ b, w.heap.size = b := ⟨_, rfl⟩
    have HB4 := Lib.hid hb4
    rw [hb4] at Y1
    rw [hb4]
    have h4w : w.heap.size ≤ b4 := by omega
    have h41 : b4 < w1.heap.size := by omega
    have HC := Lib.hid (common_rising (ts := (t :: ts).map TR.tr) (fun u hu => by
      obtain ⟨z, hz, rfl⟩ := List.mem_map.1 hu
      rw [TR.tr_vs]; exact HII.out z hz))
    have HM := Lib.hid (show ∀ v, v ∈ commonL ((t :: ts).map TR.tr) ↔ ∀ u ∈ t :: ts, v ∈ u.vs from fun v => by
      rw [mem_common (by simp)]
      constructor
      · intro h u hu
        have := h u.tr (List.mem_map_of_mem hu)
        rwa [TR.tr_vs] at this
      · intro h u hu
        obtain ⟨z, hz, rfl⟩ := List.mem_map.1 hu
        rw [TR.tr_vs]; exact h z hz)
    have V1 := Lib.hid (show [] = (commonL ((t :: ts).map TR.tr)).filter (ltV y) by
      symm
      rw [List.filter_eq_nil_iff]
      intro u hu
      have hut := (HM.out u).1 hu t (List.mem_cons_self ..)
      obtain ⟨j, hj⟩ := List.mem_iff_getElem?.1 hut
      unfold ltV
      rw [decide_eq_true_iff]
      rcases Nat.eq_zero_or_pos j with q | q
      · rw [q, hy] at hj
        injection hj with hj
        rw [hj, cmpV_is.refl]; omega
      · have := HII.out t (List.mem_cons_self ..) 0 j y u hy hj q
        have k := cmpV_is.anti y u
        omega)
    have HYM := Lib.hid (show y ∈ t.vs from List.mem_of_getElem? hy)
    clear hw1 hb4 d0 d1 d2 c0' hy
    go_step3
    go_wp2
    go_loopg [3] (ahead ((t :: ts).map TR.tr) y) (fun g v3 wr => ∃ (L : List Vl) (y : Vl), Owns 3 58 encVl wr w1.heap.size v3 L ∧ Cel wr b4 58 [.int .i64 y.t, .int .i64 y.n, .string ⟨y.s.toArray⟩] ∧ Hid (L = (commonL ((t :: ts).map TR.tr)).filter (ltV y)) ∧ Hid (∃ u ∈ t :: ts, y ∈ u.vs) ∧ Hid (ahead ((t :: ts).map TR.tr) y ≤ g) ∧ w1.heap.size ≤ wr.heap.size ∧ Below w.heap.size w wr)
    case atStart => exact ⟨[], y, Owns.nil _ _, Y1, V1, Lib.hid ⟨t, List.mem_cons_self .., HYM.out⟩, Lib.hid (Nat.le_refl _), Nat.le_refl _, B1⟩
    case round =>
      clear V1 HYM Y1 B1
      obtain ⟨L, y, H, Y, V, HYM, HG, hwr, B⟩ := hrel
      obtain ⟨p3, c3, rfl⟩ := H.form
      have hLl : L.length ≤ 100000 := by
        rw [V.out]
        refine Nat.le_trans (List.length_filter_le _ _) ?_
        show (t.tr.vs.filter (allIn ((t :: ts).map TR.tr))).length ≤ _
        refine Nat.le_trans (List.length_filter_le _ _) ?_
        rw [TR.tr_vs, HNV.out]; exact hl0
      go_wp2
      go_loopg [30] n (fun g vk wr => ∃ (k : Nat), vk = .int .i64 k ∧ k ≤ n ∧ n - k ≤ g ∧ Owns 3 58 encVl wr w1.heap.size (.slice p3 L.length c3) L ∧ Cel wr b4 58 [.int .i64 y.t, .int .i64 y.n, .string ⟨y.s.toArray⟩] ∧ Hid (∀ u ∈ (t :: ts).take k, y ∈ u.vs) ∧ w1.heap.size ≤ wr.heap.size ∧ Below w.heap.size w wr)
      case atStart => exact ⟨0, rfl, Nat.zero_le _, Nat.le_refl _, H, Y, Lib.hid (by simp), hwr, B⟩
      case round =>
        clear H Y B hwr
        obtain ⟨k, rfl, hk, hgk, H, Y, HA, hwr, B⟩ := hrel
        by_cases hlk : k < n
        · have hlkz : (k : Int) < (n : Int) := by omega
          obtain ⟨u, hu⟩ := getT (l := t :: ts) (i := k) (by rw [HNN.out]; exact hlk)
          have hum := List.mem_of_getElem? hu
          have hul := HLL.out u hum
          have hui := HII.out u hum
          obtain ⟨b1, o1, ee, k0, k1, k2, hut⟩ := (ht.keep B).at_ hu
          cases ee
          have HUM := Lib.hid hum
          have HU := Lib.hid hu
          clear hu hum
          have U := Cel.new wr 64 [u.vv, u.kv, u.wv]
          have BU := below_new wr (.cells #[u.vv, u.kv, u.wv] 64)
          have htu := ht.2 u HUM.out
          go_upto_region 8 with fail
          clear k0 k1 k2
          have SK := seekInc_any u y (wr.alloc (.cells #[u.vv, u.kv, u.wv] 64)) (htu.keep (B.trans (BU.mono B.size))) hul hui
          unfold trV valV strV at SK
          obtain ⟨r, hr⟩ : ∃ r, seekN u.vs y = r := ⟨_, rfl⟩
          rw [hr] at SK
          have HR := Lib.hid hr
          have hrl : r ≤ u.vs.length := by rw [← hr]; exact seekN_le _ _
          obtain ⟨wB, hwB⟩ : ∃ z, wr.alloc (.cells #[u.vv, u.kv, u.wv] 64) = z := ⟨_, rfl⟩
          rw [hwB] at U BU SK
          have YB := Y.keep BU
          have HB := H.keep BU
          have BB := B.trans (BU.mono B.size)
          have hwB1 : w1.heap.size ≤ wB.heap.size := Nat.le_trans hwr BU.size
          obtain ⟨b6, hb6⟩ : ∃ b, wr.heap.size = b := ⟨_, rfl⟩
          rw [hb6] at U
          have u0 := U.at_ (j := 0) rfl
          have u1 := U.at_ (j := 1) rfl
          have u2 := U.at_ (j := 2) rfl
          have x0 := YB.at_ (j := 0) rfl
          have x1 := YB.at_ (j := 1) rfl
          have x2 := YB.at_ (j := 2) rfl
          clear hr Y H B U BU
          unfold TR.vv TR.kv TR.wv at hwB
          rw [hwB]
          try rw [hb6]
          clear hwB hb6
          go_wp2_with fail
          refine SK.mono ?_
          clear SK
          rintro e5 w5 ⟨rfl, B5⟩
          replace u0 := cell_keep B5 u0
          replace x0 := cell_keep B5 x0
          replace x1 := cell_keep B5 x1
          replace x2 := cell_keep B5 x2
          have Y5 := YB.keep B5
          have H5 := HB.keep B5
          have BB5 := BB.trans (B5.mono BB.size)
          have hs5 : w1.heap.size ≤ w5.heap.size := Nat.le_trans hwB1 B5.size
          have huv := (htu.keep BB5).vals
          unfold TR.vv at huv u0
          clear YB HB hut
          by_cases hre : r = u.vs.length
          · have hrz : ((r : Int) == (u.vs.length : Int)) = true := by rw [hre]; simp
            have RES := Lib.hid (show L = commonL ((t :: ts).map TR.tr) by
              rw [V.out]
              refine cut_all fun c hc => leap_end hui (by rw [HR.out]; exact hre) ((HM.out c).1 hc u HUM.out)
              )
            have HI := H5.is encsV (by omega)
            clear hre
            go_wp2
            try rw [Exit.noGoto_ret]
            go_ret
            exact ⟨_, L, rfl, HI, RES, BB5⟩
          · have hrz : ((r : Int) == (u.vs.length : Int)) = false := by rw [beq_eq_false_iff_ne]; omega
            have hrlt : r < u.vs.length := by omega
            have hrltz : (r : Int) < (u.vs.length : Int) := by omega
            obtain ⟨z, hz⟩ := getV hrlt
            obtain ⟨bz, oz, ez, d0, d1, d2⟩ := vals_at' huv hz
            rw [ez] at u0
            unfold strV at d2
            obtain ⟨q, hq⟩ : ∃ q, (!decide (z = y)) = q := ⟨_, rfl⟩
            have hqr : ∀ w, (binOp .neq 58 (.agg #[.int .i64 z.t, .int .i64 z.n, strV z.s]) (.agg #[.int .i64 y.t, .int .i64 y.n, strV y.s])).run Tryd.prog w = .ok (.bool q) w := fun w => by rw [← hq]; exact run_neq_vl z y w
            have hgd := run_guard_vl .neq
            unfold strV at hqr
            have HZZ := Lib.hid hz
            have HQ := Lib.hid hq
            clear hz hq hre
            have BD := below_new w5 (.cells #[.int .i64 z.t, .int .i64 z.n, .string ⟨z.s.toArray⟩] 58)
            have ZC := Cel.new w5 58 [.int .i64 z.t, .int .i64 z.n, .string ⟨z.s.toArray⟩]
            have v0 := ZC.at_ (j := 0) rfl
            have v1 := ZC.at_ (j := 1) rfl
            have v2 := ZC.at_ (j := 2) rfl
            have YD := Y5.keep BD
            have HD := H5.keep BD
            have BBD := BB5.trans (BD.mono BB5.size)
            have hsD : w1.heap.size ≤ (w5.alloc (.cells #[.int .i64 z.t, .int .i64 z.n, .string ⟨z.s.toArray⟩] 58)).heap.size := Nat.le_trans hs5 BD.size
            clear Y5 H5 ZC huv
            have e0 := YD.at_ (j := 0) rfl
            have e1 := YD.at_ (j := 1) rfl
            have e2 := YD.at_ (j := 2) rfl
            have g0 := YD.free 0
            have g1 := YD.free 1
            have g2 := YD.free 2
            have YZ := ((YD.set 0 (.int .i64 z.t)).set 1 (.int .i64 z.n)).set 2 (.string ⟨z.s.toArray⟩)
            have HZ := ((HD.set (p := ⟨b4, 0, none⟩) h41 (.int .i64 z.t)).set (p := ⟨b4, 1, none⟩) h41 (.int .i64 z.n)).set (p := ⟨b4, 2, none⟩) h41 (.string ⟨z.s.toArray⟩)
            have BZ := ((BBD.setCell (p := ⟨b4, 0, none⟩) h4w (.int .i64 z.t)).setCell (p := ⟨b4, 1, none⟩) h4w (.int .i64 z.n)).setCell (p := ⟨b4, 2, none⟩) h4w (.string ⟨z.s.toArray⟩)
            have SZ : w1.heap.size ≤ ((((w5.alloc (.cells #[.int .i64 z.t, .int .i64 z.n, .string ⟨z.s.toArray⟩] 58)).setCell ⟨b4, 0, none⟩ (.int .i64 z.t)).setCell ⟨b4, 1, none⟩ (.int .i64 z.n)).setCell ⟨b4, 2, none⟩ (.string ⟨z.s.toArray⟩)).heap.size := by simpa using hsD
            go_upto_region 12 with fail
            cases q with
            | true =>
              have hne : z ≠ y := by have := HQ.out; simpa using this
              have hlt : cmpV y z < 0 := lt_of_ge (by have := seekN_stop (vs := u.vs) (y := y) (x := z) (by rw [HR.out]; exact HZZ.out); exact this) hne
              have VZ := Lib.hid (show L = (commonL ((t :: ts).map TR.tr)).filter (ltV z) by
                rw [V.out]
                exact (cut_same fun c hc => leap_gap hui (by rw [HR.out]; exact HZZ.out) ((HM.out c).1 hc u HUM.out)).symm)
              have MZ := Lib.hid (show ∃ u ∈ t :: ts, z ∈ u.vs from ⟨u, HUM.out, List.mem_of_getElem? HZZ.out⟩)
              have GZ := Lib.hid (show ahead ((t :: ts).map TR.tr) z < ahead ((t :: ts).map TR.tr) y from ahead_lt (List.mem_map_of_mem HUM.out) (by rw [TR.tr_vs]; exact List.mem_of_getElem? HZZ.out) hlt)
              go_wp2
              go_roundg (ahead ((t :: ts).map TR.tr) z)
              case measure => have := HG.out; have := GZ.out; omega
              case rel => exact ⟨L, z, HZ, YZ, VZ, MZ, Lib.hid (Nat.le_refl _), SZ, BZ⟩
            | false =>
              have hzy : z = y := by have := HQ.out; simpa using this
              have HA2 := Lib.hid (show ∀ u' ∈ (t :: ts).take (k + 1), y ∈ u'.vs from fun u' hu' => by
                rw [take_succ' HU.out] at hu'
                rcases List.mem_append.1 hu' with h | h
                · exact HA.out u' h
                · rw [List.mem_singleton.1 h, ← hzy]; exact List.mem_of_getElem? HZZ.out)
              clear g0 g1 g2 YZ HZ BZ SZ hzy
              go_wp2
              clear e0 e1 e2
              go_roundg (n - (k + 1))
              case measure => omega
              case rel => exact ⟨k + 1, by go_num, hlk, Nat.le_refl _, HD, YD, HA2, hsD, BBD⟩
        · have hlkz : ¬ (k : Int) < (n : Int) := by omega
          have HAL := Lib.hid (show ∀ u ∈ t :: ts, y ∈ u.vs from fun u hu => HA.out u (by rwa [List.take_of_length_le (by rw [HNN.out]; omega)]))
          have HYC := Lib.hid (show y ∈ commonL ((t :: ts).map TR.tr) from (HM.out y).2 HAL.out)
          have hti := HII.out t (List.mem_cons_self ..)
          have htl := HLL.out t (List.mem_cons_self ..)
          have htt := ht.2 t (List.mem_cons_self ..)
          have y0 := Y.at_ (j := 0) rfl
          have y1 := Y.at_ (j := 1) rfl
          have y2 := Y.at_ (j := 2) rfl
          have bX := below_new wr (.cells #[.int .i64 y.t, .int .i64 y.n, .string ⟨y.s.toArray⟩] 58)
          have hmr : IsRows 3 encVl (wr.alloc (.cells #[.int .i64 y.t, .int .i64 y.n, .string ⟨y.s.toArray⟩] 58)) (.slice (some ⟨wr.heap.size, 0, none⟩) 1 1) [y] := IsRows.lit wr [y] encsV (by simp)
          obtain ⟨r, hr⟩ : ∃ r, seekN t.vs y = r := ⟨_, rfl⟩
          have hry : t.vs[r]? = some y := by rw [← hr]; exact (seekN_mem hti).1 (HAL.out t (List.mem_cons_self ..))
          have hrn : r < nv := by have := (List.getElem?_eq_some_iff.1 hry).1; have := HNV.out; omega
          have HRY := Lib.hid hry
          have HR := Lib.hid hr
          obtain ⟨r1, hr1⟩ : ∃ m, r + 1 = m := ⟨_, rfl⟩
          have hrr : (r : Int) + 1 = (r1 : Int) := by omega
          have HR1 := Lib.hid hr1
          clear hr hry hr1
          go_upto_region 16 with (at_builtin; refine wpList_own fitsV encsV rfl _ _ rfl rfl rfl H bX hmr hwr (by omega) (by simp) ?_; intro p9 c9 w9 H9 B9 hG9 hU9; rw [show (L ++ [y]).length = L.length + 1 from by simp] at H9; rw [show (L ++ [y]).length = L.length + 1 from by simp])
          have B10 := B.trans (B9.mono (Nat.le_of_lt hs1))
          have Y9 : Cel w9 b4 58 [.int .i64 y.t, .int .i64 y.n, .string ⟨y.s.toArray⟩] := (Y.keep bX).agree (X := fun k => (Value.slice p3 L.length c3).ownBlock = some k) (.of_grown hG9 fun k hk => hk) fun q => by have := (H.lt b4 q).1; omega
          have hs9 : w1.heap.size ≤ w9.heap.size := Nat.le_trans hwr B9.size
          have c0' := cell_keep B10 c0
          rw [ev] at c0'
          have c1' := cell_keep B10 c1
          have c2' := cell_keep B10 c2
          replace y0 := Y9.at_ (j := 0) rfl
          replace y1 := Y9.at_ (j := 1) rfl
          replace y2 := Y9.at_ (j := 2) rfl
          have a_c0 := AftB.cell c0'
          have a_c1 := AftB.cell c1'
          have a_c2 := AftB.cell c2'
          have a_y0 := AftB.cell y0
          have a_y1 := AftB.cell y1
          have a_y2 := AftB.cell y2
          have hS : ∀ p : AftB w9, Calls Tryd.prog 58 #[.agg #[.slice (some ⟨bv, ov, none⟩) nv t.cv, t.kv, t.wv], .agg #[.int .i64 y.t, .int .i64 y.n, .string ⟨y.s.toArray⟩]] p.w' fun e w'' => e = .returned (.int .i64 r) ∧ ∃ q : AftB w9, w'' = q.w' := fun p => AftB.call (by
            have h := seekInc_any t y p.w' ((htt.keep B10).keep p.ok) htl hti
            unfold trV TR.vv at h
            rw [HR.out, HNV.out, ev] at h
            exact h)
          clear H Y B bX hmr hG9 hU9 B9
          refine wp_region_aftB (by kernel_rfl) (by kernel_rfl) ?_
          repeat (go_big_quiet_step ((exact hS _)))
          refine wpQuiet_nil ?_
          intro w6 B6
          clear a_c0 a_c1 a_c2 a_y0 a_y1 a_y2 hS
          have B11 := B10.trans (B6.mono B10.size)
          have Y6 := Y9.keep B6
          have H6 := H9.keep B6
          have hs6 : w1.heap.size ≤ w6.heap.size := Nat.le_trans hs9 B6.size
          clear Y9 H9 y0 y1 y2
          by_cases hre : r1 = nv
          · have hrz : ((r1 : Int) == (nv : Int)) = true := by rw [hre]; simp
            have RES := Lib.hid (show L ++ [y] = commonL ((t :: ts).map TR.tr) by
              rw [V.out]
              refine (cut_last HC.out HYC.out fun c hc q => ?_).symm
              obtain ⟨j, hj⟩ := List.mem_iff_getElem?.1 ((HM.out c).1 hc t (List.mem_cons_self ..))
              have hjl := (List.getElem?_eq_some_iff.1 hj).1
              rcases Nat.lt_or_ge j r with h | h
              · have h1 := hti j r c y hj HRY.out h
                have := cmpV_is.anti y c
                omega
              · have : j = r := by have := HNV.out; have := HR1.out; omega
                rw [this, HRY.out] at hj
                injection hj with hj
                rw [hj, cmpV_is.refl] at q; omega)
            have HI : IsVals w6 (.slice p9 (L.length + 1) c9) (L ++ [y]) := H6.is encsV (by simp; omega)
            have x0 := cell_keep B11 c0
            rw [ev] at x0
            go_wp2
            try rw [Exit.noGoto_ret]
            go_ret
            exact ⟨_, L ++ [y], rfl, HI, RES, B11⟩
          · have hrz : ((r1 : Int) == (nv : Int)) = false := by rw [beq_eq_false_iff_ne]; omega
            have hr1 : (r1 : Int) < (nv : Int) := by have := HR1.out; omega
            obtain ⟨z, hz⟩ := getV (l := t.vs) (i := r1) (by have := HNV.out; omega)
            have hyz := hti r r1 y z HRY.out hz (by have := HR1.out; omega)
            have VZ := Lib.hid (show L ++ [y] = (commonL ((t :: ts).map TR.tr)).filter (ltV z) by
              rw [V.out]
              refine (cut_next HC.out HYC.out hyz fun c hc h1 h2 => ?_).symm
              obtain ⟨j, hj⟩ := List.mem_iff_getElem?.1 ((HM.out c).1 hc t (List.mem_cons_self ..))
              rcases Nat.lt_or_ge j r1 with h | h
              · rcases Nat.lt_or_eq_of_le (show j ≤ r by have := HR1.out; omega) with h | h
                · have k := hti j r c y hj HRY.out h
                  have := cmpV_is.anti y c
                  omega
                · rw [h, HRY.out] at hj
                  injection hj with hj
                  rw [hj, cmpV_is.refl] at h2; omega
              · rcases Nat.lt_or_eq_of_le h with h | h
                · have k := hti r1 j z c hz hj h
                  have := cmpV_is.anti z c
                  omega
                · rw [← h, hz] at hj
                  injection hj with hj
                  rw [hj, cmpV_is.refl] at h1; omega)
            have MZ := Lib.hid (show ∃ u ∈ t :: ts, z ∈ u.vs from ⟨t, List.mem_cons_self .., List.mem_of_getElem? hz⟩)
            have GZ := Lib.hid (show ahead ((t :: ts).map TR.tr) z < ahead ((t :: ts).map TR.tr) y from ahead_lt (List.mem_map_of_mem (List.mem_cons_self ..)) (by rw [TR.tr_vs]; exact List.mem_of_getElem? hz) hyz)
            obtain ⟨_, _, ee, d0, d1, d2⟩ := vals_at' (HTV.out w6 B11) hz
            rw [ev] at ee
            cases ee
            unfold strV at d2
            have x0 := cell_keep B11 c0
            rw [ev] at x0
            clear hz hre
            have e0 := Y6.at_ (j := 0) rfl
            have e1 := Y6.at_ (j := 1) rfl
            have e2 := Y6.at_ (j := 2) rfl
            have g0 := Y6.free 0
            have g1 := Y6.free 1
            have g2 := Y6.free 2
            have YZ := ((Y6.set 0 (.int .i64 z.t)).set 1 (.int .i64 z.n)).set 2 (.string ⟨z.s.toArray⟩)
            have HZ := ((H6.set (p := ⟨b4, 0, none⟩) h41 (.int .i64 z.t)).set (p := ⟨b4, 1, none⟩) h41 (.int .i64 z.n)).set (p := ⟨b4, 2, none⟩) h41 (.string ⟨z.s.toArray⟩)
            have BZ := ((B11.setCell (p := ⟨b4, 0, none⟩) h4w (.int .i64 z.t)).setCell (p := ⟨b4, 1, none⟩) h4w (.int .i64 z.n)).setCell (p := ⟨b4, 2, none⟩) h4w (.string ⟨z.s.toArray⟩)
            have SZ : w1.heap.size ≤ (((w6.setCell ⟨b4, 0, none⟩ (.int .i64 z.t)).setCell ⟨b4, 1, none⟩ (.int .i64 z.n)).setCell ⟨b4, 2, none⟩ (.string ⟨z.s.toArray⟩)).heap.size := by simpa using hs6
            go_wp2
            go_roundg (ahead ((t :: ts).map TR.tr) z)
            case measure => have := HG.out; have := GZ.out; omega
            case rel => exact ⟨L ++ [y], z, HZ, YZ, VZ, MZ, Lib.hid (Nat.le_refl _), SZ, BZ⟩
end Go.Proofs.YtdibijhaiaiifaaDoor
/- The plain facts of the head of the laws of tries: its fixed examples. -/
namespace Go.Proofs.YtdibijhaiaiifaaDoor
abbrev vlA : Vl := symVl [97] (short1 97)
abbrev vlB : Vl := symVl [98] (short1 98)
abbrev vlC : Vl := symVl [99] (short1 99)
abbrev tA1 : Tp := [vlA, intVl 1]
abbrev tA2 : Tp := [vlA, intVl 2]
abbrev tB1 : Tp := [vlB, intVl 1]
abbrev s05 : List Sp := [(0, 5)]
abbrev thF : List Rw := [(tA1, s05), (tA2, s05), (tB1, s05)]
abbrev leafT : Tr := .mk [] [] s05
abbrev kidA : Tr := .mk [intVl 1, intVl 2] [leafT, leafT] []
abbrev kidB : Tr := .mk [intVl 1] [leafT] []
abbrev theT : Tr := .mk [vlA, vlB] [kidA, kidB] []
theorem thF_up : Up thF := by
  refine ⟨?_, ?_, by simp, trivial⟩
  · intro y hy
    rcases List.mem_cons.1 hy with rfl | hy
    · decide +kernel
    · rw [List.mem_singleton.1 hy]; decide +kernel
  · intro y hy
    rw [List.mem_singleton.1 hy]; decide +kernel
theorem thF_can : IsCan thF := ⟨thF_up, fun x hx => by
  have : x.2 = s05 := by
    rcases List.mem_cons.1 hx with rfl | hx
    · rfl
    · rcases List.mem_cons.1 hx with rfl | hx
      · rfl
      · rw [List.mem_singleton.1 hx]
  rw [this]; exact ok05⟩
theorem thF_gd : Gd 2 thF := ⟨thF_up, thF_can.2, by decide +kernel⟩
theorem leaf_gd : Gd 0 [([], s05)] := ⟨⟨by simp, trivial⟩, by simpa using ok05, by simp⟩
theorem g1_ok (l : List Vl) (h : GdG 0 (l.map fun v => (v, [(([] : Tp), s05)]))) : buildT 1 (joinG (l.map fun v => (v, [(([] : Tp), s05)]))) = .mk l (l.map fun _ => leafT) [] := by
  rw [build_join h, List.map_map, List.map_map]
  congr 1
  conv => rhs; rw [← List.map_id l]
  exact List.map_congr_left fun _ _ => rfl
theorem gdA : GdG 0 [(intVl 1, [(([] : Tp), s05)]), (intVl 2, [(([] : Tp), s05)])] := ⟨by decide +kernel, leaf_gd, by simp, by simp, leaf_gd, by simp, trivial⟩
theorem gdB : GdG 0 [(intVl 1, [(([] : Tp), s05)])] := ⟨by simp, leaf_gd, by simp, trivial⟩
theorem gdT : GdG 1 [(vlA, [([intVl 1], s05), ([intVl 2], s05)]), (vlB, [([intVl 1], s05)])] := ⟨by decide +kernel, gd_join gdA, by simp, by simp, gd_join gdB, by simp, trivial⟩
theorem build_theT : buildT 2 thF = theT := by
  have e := build_join gdT
  have a := g1_ok [intVl 1, intVl 2] gdA
  have b := g1_ok [intVl 1] gdB
  rw [show joinG [(vlA, [([intVl 1], s05), ([intVl 2], s05)]), (vlB, [([intVl 1], s05)])] = thF from rfl] at e
  rw [e]
  show Tr.mk [vlA, vlB] [buildT 1 [([intVl 1], s05), ([intVl 2], s05)], buildT 1 [([intVl 1], s05)]] [] = _
  rw [show buildT 1 [([intVl 1], s05), ([intVl 2], s05)] = kidA from a, show buildT 1 [([intVl 1], s05)] = kidB from b]
theorem build_kidA : buildT 1 [([intVl 1], s05), ([intVl 2], s05)] = kidA := g1_ok [intVl 1, intVl 2] gdA
section
variable {rs : List RR} (hr : rows rs = thF)
include hr
theorem fit_thF {columns : Int} {F : List Rw} (h : FitF columns rs F) : F = thF.filter fun x => decide ((x.1.length : Int) = columns) := by
  obtain ⟨zs, h1, rfl⟩ := h
  have : rows zs = thF := can_ext _ _ h1.can thF_can fun t k hk => by rw [h1.mom t k hk, hr]
  rw [this]
theorem built_two {t : Tr} (h : BuiltOf 2 rs t) : t = theT := by
  unfold BuiltOf at h
  rw [if_pos (by decide)] at h
  obtain ⟨F, h1, rfl⟩ := h
  rw [fit_thF hr h1]
  exact build_theT
theorem built_one {t : Tr} (h : BuiltOf 1 rs t) : t.vs = [] := by
  unfold BuiltOf at h
  rw [if_pos (by decide)] at h
  obtain ⟨F, h1, rfl⟩ := h
  rw [fit_thF hr h1]
  rw [show (thF.filter fun x => decide ((x.1.length : Int) = 1)) = [] from by decide +kernel, build_nil]; rfl
end
theorem sub_th {p : List Vl} {r : Option Tr} (h : SubI p theT r) : r = (subB 2 thF p).map fun q => buildT q.1 q.2 := by
  rw [← build_theT] at h
  exact sub_is thF_gd h
theorem sub_a {r : Option Tr} (h : SubI [vlA] theT r) : r = some kidA := by
  rw [sub_th h, show subB 2 thF [vlA] = some (1, [([intVl 1], s05), ([intVl 2], s05)]) from by decide +kernel]
  exact congrArg some build_kidA
theorem sub_1 {r : Option Tr} (h : SubI [intVl 1] theT r) : r = none := by
  rw [sub_th h, show subB 2 thF [intVl 1] = none from by decide +kernel]; rfl
theorem sub_b1 {r : Option Tr} (h : SubI [vlB, intVl 1] theT r) : r = some leafT := by
  rw [sub_th h, show subB 2 thF [vlB, intVl 1] = some (0, [([], s05)]) from by decide +kernel]; rfl
theorem same_kidA : sameT 4 kidA kidA = true := by rw [← build_kidA]; exact sameT_refl (gd_join gdA) (by decide)
theorem inc_T : IncV [vlA, vlB] := by
  have := incV_build thF_gd
  rwa [build_theT] at this
theorem inc_A : IncV [intVl 1, intVl 2] := by
  have := incV_build (gd_join gdA)
  rwa [show joinG [(intVl 1, [(([] : Tp), s05)]), (intVl 2, [(([] : Tp), s05)])] = [([intVl 1], s05), ([intVl 2], s05)] from rfl, build_kidA] at this
theorem inc_B : IncV [intVl 1] := by
  have := incV_build (gd_join gdB)
  rwa [show buildT 1 (joinG [(intVl 1, [(([] : Tp), s05)])]) = kidB from g1_ok [intVl 1] gdB] at this
theorem seek_b : seekN [vlA, vlB] vlB = 1 := by decide +kernel
theorem seek_c : seekN [vlA, vlB] vlC = 2 := by decide +kernel
theorem seek_2 : seekN [intVl 1, intVl 2] (intVl 2) = 1 := by decide +kernel
theorem com_th : commonL [kidA, kidB] = [intVl 1] := by decide +kernel
theorem valid_2 : validC 2 theT = true := by
  unfold validC
  rw [if_pos (by decide)]
  have := build_valid thF_gd
  rwa [build_theT] at this
theorem valid_1 : validC 1 theT = false := by decide +kernel
theorem valid_3 : validC 3 theT = false := by decide +kernel
theorem rows_th : rowsT 2 theT = thF := by
  rw [← build_theT]
  exact rows_build (columns := 2) (by decide) (by decide) thF_gd
theorem rows_no : rowsT 0 emptyT = [] := by decide +kernel
theorem lim_th : Lim theT := by rw [← build_theT]; exact lim_build thF_gd (by decide)
theorem sq_th : Sq theT := by rw [← build_theT]; exact sq_build thF_gd (by decide)
theorem lim_no : Lim emptyT := lim_build (gd_nil 0) (by decide)
end Go.Proofs.YtdibijhaiaiifaaDoor
