/- Parts Zd, Ze: words, walks and laws that the claims of this seat share. -/
import Derived.Test.YtdibijhaiaiifaaDoorJ20
import Derived.Test.YtdibijhaiaiifaaDoorJ21
/- The walks of the reference's Same and Small. -/
namespace Go.Proofs.YtdibijhaiaiifaaDoor
open Go.RowKit
/-- Two tries below one pair of indices. -/
def kidsD (d : Nat) (a b : Tr) : Bool := match d with | 0 => false | d + 1 => sameT d a b
theorem sameT_def (d : Nat) (a b : Tr) : sameT d a b = (decide (a.vs = b.vs) && decide (a.s = b.s) && decide (a.ks.length = b.ks.length) && (a.ks.zip b.ks).all fun p => kidsD d p.1 p.2) := by
  cases d with
  | succ d => rfl
  | zero =>
    unfold sameT
    cases ha : a.ks with
    | nil => cases hb : b.ks <;> simp
    | cons x l => cases hb : b.ks <;> simp [kidsD]
theorem sameT_bad {d : Nat} {a b : Tr} (h : ¬ (a.vs = b.vs ∧ a.s = b.s ∧ a.ks.length = b.ks.length)) : sameT d a b = false := by
  rw [sameT_def]
  cases hq : (decide (a.vs = b.vs) && decide (a.s = b.s) && decide (a.ks.length = b.ks.length)) with
  | false => rfl
  | true =>
    simp only [Bool.and_eq_true, decide_eq_true_iff] at hq
    exact absurd ⟨hq.1.1, hq.1.2, hq.2⟩ h
theorem sameT_kid {d i : Nat} {a b x y : Tr} (hx : a.ks[i]? = some x) (hy : b.ks[i]? = some y) (h : kidsD d x y = false) : sameT d a b = false := by
  rw [sameT_def, Bool.and_eq_false_iff]
  right
  rw [List.all_eq_false]
  exact ⟨(x, y), List.mem_of_getElem? (by rw [List.getElem?_zip_eq_some]; exact ⟨hx, hy⟩), by simp [h]⟩
theorem sameT_good {d : Nat} {a b : Tr} (h1 : a.vs = b.vs) (h2 : a.s = b.s) (h3 : a.ks.length = b.ks.length) (h : ∀ (i : Nat) (x y : Tr), a.ks[i]? = some x → b.ks[i]? = some y → kidsD d x y = true) : sameT d a b = true := by
  rw [sameT_def, decide_eq_true h1, decide_eq_true h2, decide_eq_true h3]
  simp only [Bool.true_and, List.all_eq_true]
  intro p hp
  obtain ⟨i, hi⟩ := List.mem_iff_getElem?.1 hp
  obtain ⟨h4, h5⟩ := List.getElem?_zip_eq_some.1 hi
  exact h i _ _ h4 h5
/-- Two boxes of tries. -/
theorem box_tries (w : World) (t u : TR) : ∃ w1, (w.alloc (.cells #[t.vv, t.kv, t.wv] 64)).alloc (.cells #[u.vv, u.kv, u.wv] 64) = w1 ∧ Below w.heap.size w w1 ∧ Cel w1 w.heap.size 64 [t.vv, t.kv, t.wv] ∧ Cel w1 (w.heap.size + 1) 64 [u.vv, u.kv, u.wv] := by
  refine ⟨_, rfl, below_alloc' (below_new _ _), (Cel.new w 64 _).keep (below_new _ _), ?_⟩
  have := Cel.new (w.alloc (.cells #[t.vv, t.kv, t.wv] 64)) 64 [u.vv, u.kv, u.wv]
  rw [World.size_alloc] at this
  exact this
def SameC (d : Nat) : Prop := ∀ (a b : TR) (w : World), TrOk w a → TrOk w b → Calls Tryd.prog 56 #[trV a, trV b, .int .i64 d] w fun e w' => e = .returned (.bool (sameT d a.tr b.tr)) ∧ Below w.heap.size w w'
set_option maxHeartbeats 8000000 in
set_option maxRecDepth 1000000 in
theorem same_step (d : Nat) (hd : d ≤ 1000) (IH : ∀ e, d = e + 1 → SameC e) : SameC d := by
  intro a b w ha hb
  obtain ⟨r, hr⟩ : ∃ r, sameT d a.tr b.tr = r := ⟨_, rfl⟩
  rw [hr]
  have HBAD := Lib.hid (show ¬ (a.vs = b.vs ∧ a.s = b.s ∧ a.ks.length = b.ks.length) → r = false from fun h => by
    rw [← hr]; refine sameT_bad fun k => h ?_
    rw [TR.tr_vs, TR.tr_vs, TR.tr_s, TR.tr_s, TR.tr_ks, TR.tr_ks, List.length_map, List.length_map] at k
    exact k)
  have HKID := Lib.hid (show ∀ (i : Nat) (x y : TR), a.ks[i]? = some x → b.ks[i]? = some y → kidsD d x.tr y.tr = false → r = false from fun i x y hx hy h => by
    rw [← hr]
    exact sameT_kid (i := i) (by rw [TR.tr_ks, List.getElem?_map, hx]; rfl) (by rw [TR.tr_ks, List.getElem?_map, hy]; rfl) h)
  have HGOOD := Lib.hid (show a.vs = b.vs → a.s = b.s → a.ks.length = b.ks.length → (∀ (i : Nat) (x y : TR), i < a.ks.length → a.ks[i]? = some x → b.ks[i]? = some y → kidsD d x.tr y.tr = true) → r = true from fun h1 h2 h3 h => by
    rw [← hr]
    refine sameT_good (by rw [TR.tr_vs, TR.tr_vs, h1]) (by rw [TR.tr_s, TR.tr_s, h2]) (by rw [TR.tr_ks, TR.tr_ks, List.length_map, List.length_map, h3]) fun i x y hx hy => ?_
    rw [TR.tr_ks, List.getElem?_map, Option.map_eq_some_iff] at hx hy
    obtain ⟨x, hx, rfl⟩ := hx
    obtain ⟨y, hy, rfl⟩ := hy
    exact h i x y (List.getElem?_eq_some_iff.1 hx).1 hx hy)
  clear hr
  unfold trV
  obtain ⟨w1, hw1, B1, X, Y⟩ := box_tries w a b
  replace ha := ha.keep B1
  replace hb := hb.keep B1
  go_enter Tryd.func56, Tryd.ntmps56
  go_upto_region 1 with fail
  clear hw1
  obtain ⟨b3, hb3⟩ : ∃ b, w.heap.size = b := ⟨_, rfl⟩
  obtain ⟨b4, hb4⟩ : ∃ b, b3 + 1 = b := ⟨_, rfl⟩
  have HB := Lib.hid B1
  rw [hb3] at X Y
  rw [hb4] at Y
  rw [hb3]
  rw [hb4]
  have p0 := X.at_ (j := 0) rfl
  have p1 := X.at_ (j := 1) rfl
  have p2 := X.at_ (j := 2) rfl
  have q0 := Y.at_ (j := 0) rfl
  have q1 := Y.at_ (j := 1) rfl
  have q2 := Y.at_ (j := 2) rfl
  have hav := ha.vals
  have hbv := hb.vals
  have hak := ha.tries
  have hbk := hb.tries
  have has := ha.spans
  have hbs := hb.spans
  unfold TR.vv at p0 q0 hav hbv
  unfold TR.kv at p1 q1 hak hbk
  obtain ⟨-, -, -, -, hma, -⟩ := id hav
  obtain ⟨-, -, -, -, hmk, -⟩ := id hak.1
  clear hb3 hb4 X Y B1 ha hb
  by_cases hvl : a.vs.length = b.vs.length
  case neg =>
    have RES := Lib.hid (HBAD.out fun h => hvl (congrArg List.length h.1))
    have z0 : ((a.vs.length : Int) != (b.vs.length : Int)) = true := by rw [bne_iff_ne]; omega
    clear hvl
    go_wp2
    go_ret
    exact ⟨by rw [RES.out]; rfl, HB.out⟩
  have z0 : ((a.vs.length : Int) != (b.vs.length : Int)) = false := by rw [bne_eq_false_iff_eq]; omega
  by_cases hkl : a.ks.length = b.ks.length
  case neg =>
    have RES := Lib.hid (HBAD.out fun h => hkl h.2.2)
    have z1 : ((a.ks.length : Int) != (b.ks.length : Int)) = true := by rw [bne_iff_ne]; omega
    clear hvl hkl
    go_wp2
    go_ret
    exact ⟨by rw [RES.out]; rfl, HB.out⟩
  have z1 : ((a.ks.length : Int) != (b.ks.length : Int)) = false := by rw [bne_eq_false_iff_eq]; omega
  have HVL := Lib.hid hvl
  have HKL := Lib.hid hkl
  clear hvl hkl
  go_wp2_with fail
  refine (Same_any _ _ a.s b.s _ has hbs).mono ?_
  rintro e w2 ⟨rfl, B2⟩
  clear has hbs
  replace p0 := cell_keep B2 p0
  replace p1 := cell_keep B2 p1
  replace q0 := cell_keep B2 q0
  replace q1 := cell_keep B2 q1
  replace hav := hav.keep B2
  replace hbv := hbv.keep B2
  replace hak := hak.keep B2
  replace hbk := hbk.keep B2
  replace HB := Lib.hid (below_trans HB.out B2)
  clear B2 p2 q2
  cases hs : decide (a.s = b.s) with
  | false =>
    have RES := Lib.hid (HBAD.out fun h => of_decide_eq_false hs h.2.1)
    go_wp2
    go_ret
    exact ⟨by rw [RES.out]; rfl, HB.out⟩
  | true =>
    have HSS := Lib.hid (of_decide_eq_true hs)
    clear hs
    obtain ⟨n, hn⟩ : ∃ n, a.vs.length = n := ⟨_, rfl⟩
    obtain ⟨m, hm⟩ : ∃ n, a.ks.length = n := ⟨_, rfl⟩
    have hn2 : b.vs.length = n := by rw [← HVL.out, hn]
    have hm2 : b.ks.length = m := by rw [← HKL.out, hm]
    rw [hn] at p0 hav hma z0
    rw [hn2] at q0 hbv z0
    rw [hm] at p1 hak hmk z1
    rw [hm2] at q1 hbk z1
    rw [hn, hm, hn2, hm2]
    have HN := Lib.hid hn
    have HM := Lib.hid hm
    have HN2 := Lib.hid hn2
    have HM2 := Lib.hid hm2
    clear hn hm hn2 hm2
    go_wp2
    go_loopg [7] n (fun g vi wr => ∃ i : Nat, vi = .int .i64 i ∧ i ≤ n ∧ n - i ≤ g ∧ Hid (a.vs.take i = b.vs.take i) ∧ Below w2.heap.size w2 wr)
    case atStart => exact ⟨0, rfl, Nat.zero_le _, Nat.le_refl _, Lib.hid rfl, Below.refl _ _⟩
    case round =>
      obtain ⟨i, rfl, hi, hg, V, B⟩ := hrel
      have p0' := cell_keep B p0
      have q0' := cell_keep B q0
      by_cases hlt : i < n
      · have hltz : (i : Int) < (n : Int) := by omega
        obtain ⟨x, hx⟩ := getV (l := a.vs) (i := i) (by have := HN.out; omega)
        obtain ⟨y, hy⟩ := getV (l := b.vs) (i := i) (by have := HN2.out; omega)
        obtain ⟨b1, o1, e1, c0, c1, c2⟩ := vals_at' (hav.keep B) hx
        obtain ⟨b2, o2, e2, d0, d1, d2⟩ := vals_at' (hbv.keep B) hy
        rw [e1] at p0'
        rw [e2] at q0'
        obtain ⟨q, hq⟩ : ∃ q, (!decide (x = y)) = q := ⟨_, rfl⟩
        have hqr : ∀ w, (binOp .neq 58 (.agg #[.int .i64 x.t, .int .i64 x.n, strV x.s]) (.agg #[.int .i64 y.t, .int .i64 y.n, strV y.s])).run Tryd.prog w = .ok (.bool q) w := fun w => by rw [← hq]; exact run_neq_vl x y w
        have hgd := run_guard_vl .neq
        have VS := Lib.hid (show q = false → a.vs.take (i + 1) = b.vs.take (i + 1) from fun e => by
          have e : x = y := by rw [e] at hq; simpa using hq
          rw [take_succ' hx, take_succ' hy, V.out, e])
        have VN := Lib.hid (show q = true → r = false from fun e => HBAD.out fun k => by
          have k := k.1
          rw [k, hy] at hx
          injection hx with hx
          rw [hx, e] at hq
          simp at hq)
        clear hq hx hy
        unfold strV at hqr c2 d2
        have a_c0 := AftB.cell c0
        have a_c1 := AftB.cell c1
        have a_c2 := AftB.cell c2
        have a_d0 := AftB.cell d0
        have a_d1 := AftB.cell d1
        have a_d2 := AftB.cell d2
        have a_p := AftB.cell p0'
        have a_q := AftB.cell q0'
        clear c0 c1 c2 d0 d1 d2
        go_upto_region 6 with fail
        refine wp_region_aftB (by kernel_rfl) (by kernel_rfl) ?_
        repeat (go_big_quiet_step (fail))
        refine wpQuiet_nil ?_
        intro w6 B6
        have BB := B.trans (B6.mono B.size)
        clear a_c0 a_c1 a_c2 a_d0 a_d1 a_d2 a_p a_q hqr hgd p0' q0'
        cases q with
        | true =>
          have RES := Lib.hid (VN.out rfl)
          go_wp2
          go_ret
          exact ⟨by rw [RES.out]; rfl, below_trans HB.out BB⟩
        | false =>
          have VX := Lib.hid (VS.out rfl)
          go_wp2
          try rw [← e1]
          try rw [← e2]
          go_roundg (n - (i + 1))
          case measure => omega
          case rel => exact ⟨i + 1, by go_num, hlt, Nat.le_refl _, VX, BB⟩
      · have hltz : ¬ (i : Int) < (n : Int) := by omega
        have HVS := Lib.hid (show a.vs = b.vs by
          have := V.out
          rwa [List.take_of_length_le (by have := HN.out; omega), List.take_of_length_le (by have := HN2.out; omega)] at this)
        have HB9 := Lib.hid (below_trans HB.out B)
        have B0 := B
        replace p1 := cell_keep B p1
        replace q1 := cell_keep B q1
        replace hak := hak.keep B
        replace hbk := hbk.keep B
        clear hav hbv V HB
        go_wp2
        clear B B0 p0 q0 p0' q0'
        go_loopg [8] m (fun g vi wz => ∃ j : Nat, vi = .int .i64 j ∧ j ≤ m ∧ m - j ≤ g ∧ Hid (∀ (i : Nat) (x y : TR), i < j → a.ks[i]? = some x → b.ks[i]? = some y → kidsD d x.tr y.tr = true) ∧ Below wr.heap.size wr wz)
        case atStart => exact ⟨0, rfl, Nat.zero_le _, Nat.le_refl _, Lib.hid (fun i x y h => by omega), Below.refl _ _⟩
        case round =>
          obtain ⟨j, rfl, hj, hgj, V, B⟩ := hrel
          have p1' := cell_keep B p1
          have q1' := cell_keep B q1
          by_cases hlj : j < m
          · have hltj : (j : Int) < (m : Int) := by omega
            obtain ⟨x, hx⟩ := getElem_of_lt (l := a.ks) (i := j) (by have := HM.out; omega)
            obtain ⟨y, hy⟩ := getElem_of_lt (l := b.ks) (i := j) (by have := HM2.out; omega)
            have HNX := Lib.hid (show kidsD d x.tr y.tr = true → ∀ (i : Nat) (x y : TR), i < j + 1 → a.ks[i]? = some x → b.ks[i]? = some y → kidsD d x.tr y.tr = true from fun h i x' y' hi hx' hy' => by
              rcases Nat.lt_or_eq_of_le (Nat.le_of_lt_succ hi) with hi | rfl
              · exact V.out i x' y' hi hx' hy'
              · rw [hx] at hx'
                rw [hy] at hy'
                injection hx' with hx'
                injection hy' with hy'
                rw [← hx', ← hy']; exact h)
            have HNO := Lib.hid (HKID.out j x y hx hy)
            obtain ⟨b1, o1, e1, c0, c1, c2, hxt⟩ := (hak.keep B).at_ hx
            obtain ⟨b2, o2, e2, d0, d1, d2, hyt⟩ := (hbk.keep B).at_ hy
            rw [e1] at p1'
            rw [e2] at q1'
            have a_c0 := AftB.cell c0
            have a_c1 := AftB.cell c1
            have a_c2 := AftB.cell c2
            have a_d0 := AftB.cell d0
            have a_d1 := AftB.cell d1
            have a_d2 := AftB.cell d2
            have a_p := AftB.cell p1'
            have a_q := AftB.cell q1'
            clear hx hy c0 c1 c2 d0 d1 d2
            by_cases hd0 : d = 0
            · subst hd0
              have RES := Lib.hid (HNO.out rfl)
              have hdz : ((0 : Nat) : Int) ≤ 0 := by omega
              go_upto_region 11 with fail
              refine wp_region_aftB (by kernel_rfl) (by kernel_rfl) ?_
              repeat (go_big_quiet_step (fail))
              refine wpQuiet_nil ?_
              intro w6 B6
              have BB := B.trans (B6.mono B.size)
              clear a_c0 a_c1 a_c2 a_d0 a_d1 a_d2 a_p a_q p1' q1'
              go_wp2
              go_ret
              exact ⟨by rw [RES.out]; rfl, below_trans HB9.out BB⟩
            · obtain ⟨f, hf⟩ : ∃ f, d = f + 1 := ⟨d - 1, by omega⟩
              obtain ⟨q, hq⟩ : ∃ q, kidsD d x.tr y.tr = q := ⟨_, rfl⟩
              have hq' := hq
              rw [hf] at hq'
              have hq' : sameT f x.tr y.tr = q := hq'
              have hdz : ¬ (d : Int) ≤ 0 := by omega
              have hd1 : (d : Int) - 1 = (f : Int) := by omega
              have hdw : IntKind.i64.wrap (f : Int) = (f : Int) := by rw [IntKind.wrap_i64]; omega
              have hC : ∀ p : AftB wr, Calls Tryd.prog 56 #[.agg #[x.vv, x.kv, x.wv], .agg #[y.vv, y.kv, y.wv], .int .i64 f] p.w' fun e w'' => e = .returned (.bool q) ∧ ∃ q : AftB wr, w'' = q.w' := fun p => AftB.call (by
                have h := IH f hf x y p.w' (hxt.keep p.ok) (hyt.keep p.ok)
                rw [hq'] at h
                exact h)
              have HQ := Lib.hid hq
              clear hq hq' hxt hyt hf
              go_upto_region 11 with fail
              refine wp_region_aftB (by kernel_rfl) (by kernel_rfl) ?_
              repeat (go_big_quiet_step ((exact hC _)))
              refine wpQuiet_nil ?_
              intro w6 B6
              have BB := B.trans (B6.mono B.size)
              clear a_c0 a_c1 a_c2 a_d0 a_d1 a_d2 a_p a_q p1' q1' hC
              cases q with
              | false =>
                have RES := Lib.hid (HNO.out HQ.out)
                go_wp2
                go_ret
                exact ⟨by rw [RES.out]; rfl, below_trans HB9.out BB⟩
              | true =>
                have VX := Lib.hid (HNX.out HQ.out)
                go_wp2
                try rw [← e1]
                try rw [← e2]
                go_roundg (m - (j + 1))
                case measure => omega
                case rel => exact ⟨j + 1, by go_num, hlj, Nat.le_refl _, VX, BB⟩
          · have hltj : ¬ (j : Int) < (m : Int) := by omega
            have RES := Lib.hid (HGOOD.out HVS.out HSS.out HKL.out fun i x y hi => V.out i x y (by have := HM.out; omega))
            go_wp2
            go_ret
            exact ⟨by rw [RES.out]; rfl, below_trans HB9.out B⟩
theorem same_all : ∀ d : Nat, d ≤ 1000 → SameC d
  | 0, h => same_step 0 h fun e he => by omega
  | d + 1, h => same_step (d + 1) h fun e he => by
      obtain rfl : d = e := by omega
      exact same_all d (by omega)
/-! ### Small -/
/-- A trie whose lists are as long as a machine's memory lets them be. -/
inductive Wide : Tr → Prop
  | mk (t : Tr) : t.vs.length ≤ 140737488355328 → t.s.length ≤ 140737488355328 → (∀ k ∈ t.ks, Wide k) → Wide t
theorem Wide.vs {t : Tr} (h : Wide t) : t.vs.length ≤ 140737488355328 := by cases h; assumption
theorem Wide.s {t : Tr} (h : Wide t) : t.s.length ≤ 140737488355328 := by cases h; assumption
theorem Wide.sub {t : Tr} (h : Wide t) : ∀ k ∈ t.ks, Wide k := by cases h; assumption
def cntD : Nat → Tr → Nat
  | 0, _ => 0
  | d + 1, t => 1 + t.vs.length + t.s.length + (t.ks.map (cntD d)).sum
def fitD : Nat → Tr → Prop
  | 0, _ => False
  | d + 1, t => ∀ k ∈ t.ks, fitD d k
def SizeC (d : Nat) : Prop := ∀ (t : TR) (L : Nat) (w : World), TrOk w t → Wide t.tr → L ≤ 1000 → Calls Tryd.prog 101 #[trV t, .int .i64 d, .int .i64 L] w fun e w' => ∃ r : Nat, e = .returned (.int .i64 r) ∧ Hid (r ≤ L → fitD d t.tr ∧ cntD d t.tr = r) ∧ r ≤ 1000000000000000 + 1000 * d ∧ Below w.heap.size w w'
set_option maxHeartbeats 8000000 in
set_option maxRecDepth 1000000 in
theorem size_step (d : Nat) (hd : d ≤ 1000) (IH : ∀ e, d = e + 1 → SizeC e) : SizeC d := by
  intro t L w ht hw hL
  have hv1 := hw.vs
  have hv2 := hw.s
  rw [TR.tr_vs] at hv1
  rw [TR.tr_s] at hv2
  unfold trV
  have BA := below_new w (.cells #[t.vv, t.kv, t.wv] 64)
  have X := Cel.new w 64 [t.vv, t.kv, t.wv]
  obtain ⟨w1, hw1⟩ : ∃ z, w.alloc (.cells #[t.vv, t.kv, t.wv] 64) = z := ⟨_, rfl⟩
  rw [hw1] at X BA
  replace ht := ht.keep BA
  go_enter Tryd.func101, Tryd.ntmps101
  go_upto_region 1 with fail
  clear hw1
  obtain ⟨b3, hb3⟩ : ∃ b, w.heap.size = b := ⟨_, rfl⟩
  have HB := Lib.hid BA
  rw [hb3] at X
  rw [hb3]
  have q0 := X.at_ (j := 0) rfl
  have q1 := X.at_ (j := 1) rfl
  have q2 := X.at_ (j := 2) rfl
  have hks := ht.tries
  unfold TR.vv at q0
  unfold TR.kv at q1 hks
  unfold TR.wv at q2
  obtain ⟨-, -, -, -, hmk, -⟩ := id hks.1
  clear X BA hb3
  by_cases hd0 : d = 0
  · subst hd0
    go_wp2
    go_ret
    exact ⟨L + 1, by go_num, Lib.hid (fun h => by omega), by omega, HB.out⟩
  obtain ⟨f, hf⟩ : ∃ f, d = f + 1 := ⟨d - 1, by omega⟩
  have hd1 : (d : Int) - 1 = (f : Int) := by omega
  have hdw : IntKind.i64.wrap (f : Int) = (f : Int) := by rw [IntKind.wrap_i64]; omega
  have hde : ((d : Int) == 0) = false := by rw [beq_eq_false_iff_ne]; omega
  have IHf := IH f hf
  obtain ⟨m, hm⟩ : ∃ n, t.ks.length = n := ⟨_, rfl⟩
  rw [hm] at q1 hks hmk
  have HM := Lib.hid hm
  have HT := Lib.hid ht
  have HW := Lib.hid hw
  have HF := Lib.hid hf
  clear hm ht hw IH hf
  go_wp2
  go_loopg [7, 8] m (fun g vn vi wr => ∃ (i nn : Nat), vn = .int .i64 nn ∧ vi = .int .i64 i ∧ i ≤ m ∧ m - i ≤ g ∧ Hid (nn ≤ L → (∀ k ∈ t.tr.ks.take i, fitD f k) ∧ nn = 1 + t.tr.vs.length + t.tr.s.length + ((t.tr.ks.take i).map (cntD f)).sum) ∧ nn ≤ 1000000000000000 + 1000 * d ∧ Below w1.heap.size w1 wr)
  case atStart => exact ⟨0, 1 + t.vs.length + t.s.length, by go_num, rfl, Nat.zero_le _, Nat.le_refl _, Lib.hid (fun _ => ⟨by simp, by rw [TR.tr_vs, TR.tr_s]; simp⟩), by omega, Below.refl _ _⟩
  case round =>
    obtain ⟨i, nn, rfl, rfl, hi, hg, V, hnn, B⟩ := hrel
    have q1' := cell_keep B q1
    by_cases hlt : i < m
    · have hltz : (i : Int) < (m : Int) := by omega
      by_cases hnL : nn ≤ L
      · have hnz : (nn : Int) ≤ (L : Int) := by omega
        obtain ⟨k, hk⟩ := getElem_of_lt (l := t.ks) (i := i) (by have := HM.out; omega)
        obtain ⟨b1, o1, e1, c0, c1, c2, hkt⟩ := (hks.keep B).at_ hk
        have hk' : t.tr.ks[i]? = some k.tr := by rw [TR.tr_ks, List.getElem?_map, hk]; rfl
        have hkw := HW.out.sub k.tr (List.mem_of_getElem? hk')
        rw [e1] at q1'
        obtain ⟨l, hl⟩ : ∃ l, L - nn = l := ⟨_, rfl⟩
        have hl1 : (L : Int) - (nn : Int) = (l : Int) := by omega
        have hlw : IntKind.i64.wrap (l : Int) = (l : Int) := by rw [IntKind.wrap_i64]; omega
        have hC := IHf k l wr hkt hkw (by omega)
        unfold trV at hC
        have HK := Lib.hid hk'
        have HLL := Lib.hid hl
        have HNL := Lib.hid hnL
        have hfd : 1000 * f + 1000 = 1000 * d := by have := HF.out; omega
        clear hk hk' hkw hkt
        go_wp2_with fail
        refine hC.mono ?_
        rintro e5 w5 ⟨r, rfl, HR, hr, B5⟩
        clear hC c0 c1 c2
        have hrb : nn + r ≤ 1000000000000000 + 1000 * d := by omega
        have VX := Lib.hid (show nn + r ≤ L → (∀ k ∈ t.tr.ks.take (i + 1), fitD f k) ∧ nn + r = 1 + t.tr.vs.length + t.tr.s.length + ((t.tr.ks.take (i + 1)).map (cntD f)).sum from fun h => by
          obtain ⟨h1, h2⟩ := V.out HNL.out
          obtain ⟨h3, h4⟩ := HR.out (by have := HLL.out; omega)
          rw [take_succ' HK.out, List.map_append, List.sum_append]
          refine ⟨fun z hz => ?_, by have h5 : (List.map (cntD f) [k.tr]).sum = r := (by simp [h4]); omega⟩
          rcases List.mem_append.1 hz with hz | hz
          · exact h1 z hz
          · rw [List.mem_singleton.1 hz]; exact h3)
        have BB := B.trans (B5.mono B.size)
        go_wp2
        try rw [← e1]
        go_roundg (m - (i + 1))
        case measure => omega
        case rel => exact ⟨i + 1, nn + r, by go_num, by go_num, hlt, Nat.le_refl _, VX, hrb, BB⟩
      · have hnz : ¬ (nn : Int) ≤ (L : Int) := by omega
        go_wp2
        go_ret
        exact ⟨nn, rfl, Lib.hid (fun h => absurd h hnL), hnn, below_trans HB.out B⟩
    · have hltz : ¬ (i : Int) < (m : Int) := by omega
      have RES := Lib.hid (show nn ≤ L → fitD d t.tr ∧ cntD d t.tr = nn from fun h => by
        obtain ⟨h1, h2⟩ := V.out h
        rw [List.take_of_length_le (by rw [TR.tr_ks, List.length_map, HM.out]; omega)] at h1 h2
        rw [HF.out]
        exact ⟨h1, h2.symm⟩)
      go_wp2
      go_ret
      exact ⟨nn, rfl, RES, hnn, below_trans HB.out B⟩
theorem size_all : ∀ d : Nat, d ≤ 1000 → SizeC d
  | 0, h => size_step 0 h fun e he => by omega
  | d + 1, h => size_step (d + 1) h fun e he => by
      obtain rfl : d = e := by omega
      exact size_all d (by omega)
/-- A small trie: what Small promises. -/
def SmallT (t : Tr) : Prop := fitD 8 t ∧ cntD 8 t ≤ 100
set_option maxHeartbeats 4000000 in
set_option maxRecDepth 1000000 in
theorem Small_any (t : TR) (w : World) (ht : TrOk w t) (hw : Wide t.tr) : Calls Tryd.prog 52 #[trV t, .int .i64 100] w fun e w' => ∃ b : Bool, e = .returned (.bool b) ∧ Hid (b = true → SmallT t.tr) ∧ Below w.heap.size w w' := by
  unfold trV
  have BA := below_new w (.cells #[t.vv, t.kv, t.wv] 64)
  have X := Cel.new w 64 [t.vv, t.kv, t.wv]
  obtain ⟨w1, hw1⟩ : ∃ z, w.alloc (.cells #[t.vv, t.kv, t.wv] 64) = z := ⟨_, rfl⟩
  rw [hw1] at X BA
  have q0 := X.at_ (j := 0) rfl
  have q1 := X.at_ (j := 1) rfl
  have q2 := X.at_ (j := 2) rfl
  have hC := size_all 8 (by decide) t 100 w1 (ht.keep BA) hw (by decide)
  unfold trV at hC
  clear ht hw X
  go_enter Tryd.func52, Tryd.ntmps52
  go_wp2_with fail
  refine hC.mono ?_
  rintro e5 w5 ⟨r, rfl, HR, hr, B5⟩
  clear hC
  by_cases hrl : r ≤ 100
  · have hrz : (r : Int) ≤ 100 := by omega
    go_wp2
    go_ret
    exact ⟨true, rfl, Lib.hid (fun _ => ⟨(HR.out hrl).1, by rw [(HR.out hrl).2]; exact hrl⟩), below_trans BA B5⟩
  · have hrz : ¬ (r : Int) ≤ 100 := by omega
    go_wp2
    go_ret
    refine ⟨false, ?_, Lib.hid (fun h => by cases h), below_trans BA B5⟩
    show Ending.returned (.bool (decide ((r : Int) ≤ 100))) = _
    rw [decide_eq_false (by omega)]
/-! ### what Small says -/
theorem mem_sum {l : List Tr} {f : Tr → Nat} {k : Tr} (h : k ∈ l) : f k ≤ (l.map f).sum := by
  induction l with
  | nil => simp at h
  | cons a l ih =>
    rw [List.map_cons, List.sum_cons]
    rcases List.mem_cons.1 h with rfl | h
    · omega
    · have := ih h; omega
theorem len_sum {l : List Tr} {d : Nat} (h : ∀ k ∈ l, fitD d k) : l.length ≤ (l.map (cntD d)).sum := by
  induction l with
  | nil => simp
  | cons a l ih =>
    have h1 := ih fun k hk => h k (List.mem_cons_of_mem _ hk)
    have h2 := h a (List.mem_cons_self ..)
    rw [List.map_cons, List.sum_cons, List.length_cons]
    cases d with
    | zero => exact h2.elim
    | succ d =>
      have : 1 ≤ cntD (d + 1) a := by unfold cntD; omega
      omega
theorem lim_of_fit : ∀ {d : Nat} {t : Tr}, fitD d t → cntD d t ≤ 100 → Lim t
  | 0, _, h, _ => h.elim
  | d + 1, t, h, hc => by
    unfold cntD at hc
    have := len_sum h
    refine .mk t (by omega) fun k hk => lim_of_fit (h k hk) ?_
    have := mem_sum (f := cntD d) hk
    omega
theorem walk_len : ∀ {n d : Nat} {t : Tr} (p : Tp), fitD d t → (walkL n p t).length ≤ cntD d t
  | _, 0, _, _, h => h.elim
  | 0, d + 1, t, p, _ => by unfold walkL cntD; simp; omega
  | n + 1, d + 1, t, p, h => by
    have key : ∀ (vs : List Vl) (ks : List Tr), (∀ k ∈ ks, fitD d k) → ((vs.zip ks).flatMap fun q => walkL n (p ++ [q.1]) q.2).length ≤ (ks.map (cntD d)).sum := by
      intro vs
      induction vs with
      | nil => intro ks _; simp
      | cons v vs ih =>
        intro ks hk
        cases ks with
        | nil => simp
        | cons k ks =>
          rw [List.zip_cons_cons, List.flatMap_cons, List.length_append, List.map_cons, List.sum_cons]
          have h1 := ih ks fun z hz => hk z (List.mem_cons_of_mem _ hz)
          have h2 := walk_len (n := n) (p ++ [v]) (hk k (List.mem_cons_self ..))
          show (walkL n (p ++ [v]) k).length + _ ≤ _
          omega
    have := key t.vs t.ks h
    unfold walkL cntD
    omega
theorem small_lim {t : Tr} (h : SmallT t) : Lim t := lim_of_fit h.1 h.2
theorem small_rows {t : Tr} (h : SmallT t) (columns : Int) : (rowsT columns t).length ≤ 100 := by
  unfold rowsT
  split
  · exact Nat.le_trans (walk_len [] h.1) h.2
  · simp
end Go.Proofs.YtdibijhaiaiifaaDoor
/- The walk of the reference's Valid. -/
namespace Go.Proofs.YtdibijhaiaiifaaDoor
open Go.RowKit
def RValC (n : Nat) : Prop := ∀ (t : TR) (w : World), TrOk w t → Lim t.tr → Calls Tryd.prog 61 #[.int .i64 n, trV t] w fun e w' => e = .returned (.bool (validT n t.tr)) ∧ Below w.heap.size w w'
theorem rEmpty_aftB {W : World} {t : TR} {b : Bool} {v1 v2 v3 : Value} (h1 : t.vv = v1) (h2 : t.kv = v2) (h3 : t.wv = v3) (hb : emptyB t.tr = b) (p : AftB W) : Calls Tryd.prog 111 #[.agg #[v1, v2, v3]] p.w' fun e w'' => e = .returned (.bool b) ∧ ∃ q : AftB W, w'' = q.w' := by
  subst hb h1 h2 h3
  exact AftB.call (rEmpty_any t p.w')
set_option maxHeartbeats 4000000 in
set_option maxRecDepth 1000000 in
theorem rvalid_zero : RValC 0 := by
  intro t w ht hl
  have hl9 := hl.len
  rw [TR.tr_vs, TR.tr_s, TR.tr_ks, List.length_map] at hl9
  obtain ⟨q', hq'⟩ : ∃ q', decide (t.s = canon (setOf t.s)) = q' := ⟨_, rfl⟩
  have RES := Lib.hid (show validT 0 t.tr = (decide (t.vs.length + t.ks.length = 0) && q') by unfold validT; rw [TR.tr_vs, TR.tr_s, TR.tr_ks, List.length_map, hq'])
  rw [RES.out]
  clear RES hl
  unfold trV
  have BA := below_new w (.cells #[t.vv, t.kv, t.wv] 64)
  have X := Cel.new w 64 [t.vv, t.kv, t.wv]
  obtain ⟨wA, hwA⟩ : ∃ z, w.alloc (.cells #[t.vv, t.kv, t.wv] 64) = z := ⟨_, rfl⟩
  rw [hwA] at X BA
  have q0 := X.at_ (j := 0) rfl
  have q1 := X.at_ (j := 1) rfl
  have q2 := X.at_ (j := 2) rfl
  have hs := ht.spans.keep BA
  clear ht
  obtain ⟨vw, hvw⟩ : ∃ v, t.wv = v := ⟨_, rfl⟩
  obtain ⟨nv, hnv⟩ : ∃ n, t.vs.length = n := ⟨_, rfl⟩
  obtain ⟨nk, hnk⟩ : ∃ n, t.ks.length = n := ⟨_, rfl⟩
  rw [hvw] at q2 hs
  unfold TR.vv at q0
  unfold TR.kv at q1
  rw [hnv] at q0 hl9
  rw [hnk] at q1 hl9
  rw [hnv, hnk]
  clear X hvw hnv hnk
  by_cases h0 : nv = 0
  · subst h0
    by_cases h1 : nk = 0
    · subst h1
      go_enter Tryd.func61, Tryd.ntmps61
      go_wp2_with fail
      refine (rValid_any vw t.s _ hs).mono ?_
      rintro e w2 ⟨rfl, B2⟩
      rw [hq']
      go_wp2
      go_ret
      exact ⟨by simp, below_trans BA B2⟩
    · have z1 : ((nk : Int) == 0) = false := by rw [beq_eq_false_iff_ne]; omega
      rw [decide_eq_false (by omega)]
      go_enter Tryd.func61, Tryd.ntmps61
      go_wp2
      go_ret
      exact ⟨by simp, BA⟩
  · have z0 : ((nv : Int) == 0) = false := by rw [beq_eq_false_iff_ne]; omega
    rw [decide_eq_false (by omega)]
    go_enter Tryd.func61, Tryd.ntmps61
    go_wp2
    go_ret
    exact ⟨by simp, BA⟩
set_option maxHeartbeats 4000000 in
set_option maxRecDepth 1000000 in
theorem rvalid_succ (n : Nat) (hn : n + 1 ≤ 4) (IH : RValC n) : RValC (n + 1) := by
  intro t w ht hl
  have hl9 := hl.len
  rw [TR.tr_vs, TR.tr_s, TR.tr_ks, List.length_map] at hl9
  have HB1 := Lib.hid (fun h => validT_bad1 (n := n) (t := t.tr) (by rw [TR.tr_s]; exact h))
  have HB2 := Lib.hid (fun h => validT_bad2 (n := n) (t := t.tr) (by rw [TR.tr_ks, TR.tr_vs, List.length_map]; exact h))
  have HB3 := Lib.hid (show ∀ i, i < t.ks.length → okK (validT n) t.tr.vs t.tr.ks i = false → validT (n + 1) t.tr = false from fun i hi h => validT_bad3 (by rw [TR.tr_ks, List.length_map]; exact hi) h)
  have HG := Lib.hid (show t.s.length = 0 → t.ks.length = t.vs.length → (∀ j, j < t.ks.length → okK (validT n) t.tr.vs t.tr.ks j = true) → validT (n + 1) t.tr = true from fun h1 h2 h => validT_good (by rw [TR.tr_s]; exact h1) (by rw [TR.tr_ks, TR.tr_vs, List.length_map]; exact h2) (fun j hj => h j (by rwa [TR.tr_ks, List.length_map] at hj)))
  obtain ⟨m, hm⟩ : ∃ m : Int, ((n + 1 : Nat) : Int) = m := ⟨_, rfl⟩
  rw [hm]
  have m0 : ¬ m < 0 := by omega
  have m4 : ¬ 4 < m := by omega
  have me : (m == 0) = false := by rw [beq_eq_false_iff_ne]; omega
  have mp : m - 1 = (n : Int) := by omega
  have mw : IntKind.i64.wrap (n : Int) = (n : Int) := by rw [IntKind.wrap_i64]; omega
  clear hm
  unfold trV
  have BA := below_new w (.cells #[t.vv, t.kv, t.wv] 64)
  have X := Cel.new w 64 [t.vv, t.kv, t.wv]
  obtain ⟨wA, hwA⟩ : ∃ z, w.alloc (.cells #[t.vv, t.kv, t.wv] 64) = z := ⟨_, rfl⟩
  rw [hwA] at X BA
  have q0 := X.at_ (j := 0) rfl
  have q1 := X.at_ (j := 1) rfl
  have q2 := X.at_ (j := 2) rfl
  replace ht := ht.keep BA
  have hvs := ht.vals
  have hks := ht.tries
  clear ht
  unfold TR.vv at q0 hvs
  unfold TR.kv at q1 hks
  unfold TR.wv at q2
  obtain ⟨ns, hns⟩ : ∃ n, t.s.length = n := ⟨_, rfl⟩
  rw [hns] at q2 hl9
  have HNS := Lib.hid hns
  clear X hns
  by_cases hs0 : 0 < ns
  · have hs1 : (0 : Int) < (ns : Int) := by omega
    have RES := Lib.hid (HB1.out (by rw [HNS.out]; omega))
    rw [RES.out]
    clear hs0
    go_enter Tryd.func61, Tryd.ntmps61
    go_wp2
    go_ret
    exact ⟨rfl, BA⟩
  have hs0 : ns = 0 := by omega
  subst hs0
  by_cases hkv : t.ks.length = t.vs.length
  case neg =>
    have RES := Lib.hid (HB2.out hkv)
    rw [RES.out]
    obtain ⟨nv, hnv⟩ : ∃ n, t.vs.length = n := ⟨_, rfl⟩
    obtain ⟨nk, hnk⟩ : ∃ n, t.ks.length = n := ⟨_, rfl⟩
    rw [hnv] at q0
    rw [hnk] at q1
    rw [hnv, hnk] at hkv
    have hk1 : ((nk : Int) != (nv : Int)) = true := by rw [bne_iff_ne]; omega
    clear hnv hnk hl9 hvs hks hkv
    go_enter Tryd.func61, Tryd.ntmps61
    go_wp2
    go_ret
    exact ⟨rfl, BA⟩
  have HKV := Lib.hid hkv
  have hk1 : ((t.ks.length : Int) != (t.vs.length : Int)) = false := by rw [bne_eq_false_iff_eq]; omega
  obtain ⟨b3, hb3⟩ : ∃ b, w.heap.size = b := ⟨_, rfl⟩
  rw [hb3] at q0 q1 q2
  clear hkv
  go_enter Tryd.func61, Tryd.ntmps61
  rw [hb3]
  go_wp2
  go_loopg [5] t.ks.length (fun g vi wr => ∃ (i : Nat), vi = .int .i64 i ∧ i ≤ t.ks.length ∧ t.ks.length - i ≤ g ∧ Hid (∀ j, j < i → okK (validT n) t.tr.vs t.tr.ks j = true) ∧ Below wA.heap.size wA wr)
  case atStart => exact ⟨0, rfl, Nat.zero_le _, Nat.le_refl _, Lib.hid (fun j hj => by omega), Below.refl _ _⟩
  case round =>
    obtain ⟨i, rfl, hi, hg, V, B⟩ := hrel
    by_cases hlt : i < t.ks.length
    · have hltz : (i : Int) < (t.ks.length : Int) := by omega
      have hltv : (i : Int) < (t.vs.length : Int) := by rw [← HKV.out]; exact hltz
      obtain ⟨k, hk⟩ := getElem_of_lt hlt
      obtain ⟨y, hy⟩ := getElem_of_lt (l := t.vs) (i := i) (by rw [← HKV.out]; exact hlt)
      obtain ⟨bk, ok, ek, k0, k1, k2, hkt⟩ := (hks.keep B).at_ hk
      obtain ⟨bv, ov, ev, d0, d1, d2⟩ := vals_at' (hvs.keep B) hy
      have hkm := List.mem_of_getElem? hk
      have HLK := Lib.hid (hl.sub k.tr (by rw [TR.tr_ks]; exact List.mem_map_of_mem hkm))
      have HOK := Lib.hid (show okK (validT n) t.tr.vs t.tr.ks i = (incAt t.vs i && (!emptyB k.tr && validT n k.tr)) by unfold okK; rw [TR.tr_vs, TR.tr_ks, List.getElem?_map, hk]; rfl)
      have HBAD := Lib.hid (show okK (validT n) t.tr.vs t.tr.ks i = false → validT (n + 1) t.tr = false from HB3.out i hlt)
      have HNEXT := Lib.hid (show okK (validT n) t.tr.vs t.tr.ks i = true → ∀ j, j < i + 1 → okK (validT n) t.tr.vs t.tr.ks j = true from fun h j hj => by
        rcases Nat.lt_or_eq_of_le (Nat.le_of_lt_succ hj) with hj | rfl
        · exact V.out j hj
        · exact h)
      have q0' := cell_keep B q0
      have q1' := cell_keep B q1
      rw [ev] at q0'
      rw [ek] at q1'
      have BB := B
      obtain ⟨e, he⟩ : ∃ e, emptyB k.tr = e := ⟨_, rfl⟩
      obtain ⟨vk, hvk⟩ : ∃ e, validT n k.tr = e := ⟨_, rfl⟩
      have HLE := Lib.hid (show k.vs.length + k.s.length ≤ 1000000000 by have := HLK.out.len; rw [TR.tr_vs, TR.tr_s] at this; omega)
      have hIH : ∀ p : AftB wr, Calls Tryd.prog 61 #[.int .i64 n, .agg #[k.vv, k.kv, k.wv]] p.w' fun e w'' => e = .returned (.bool vk) ∧ ∃ q : AftB wr, w'' = q.w' := fun p => AftB.call (by
        have h := IH k p.w' (hkt.keep p.ok) HLK.out
        unfold trV at h
        rw [hvk] at h
        exact h)
      have HE := Lib.hid he
      have HVK := Lib.hid hvk
      have a_z0 := AftB.cell k0
      have a_z1 := AftB.cell k1
      have a_z2 := AftB.cell k2
      have a_q0 := AftB.cell q0'
      have a_q1 := AftB.cell q1'
      have HY := Lib.hid hy
      unfold strV at d2
      have a_d0 := AftB.cell d0
      have a_d1 := AftB.cell d1
      have a_d2 := AftB.cell d2
      have HI' := Lib.hid hi
      clear he hvk HLK hkm hkt hk hy hi k0 k1 k2
      by_cases hi0 : i = 0
      · subst hi0
        have HI := Lib.hid (show incAt t.vs 0 = true from rfl)
        clear q1'
        simp only [Nat.zero_mul, Nat.add_zero] at a_z0 a_z1 a_z2
        cases e with
        | true =>
          go_upto_region 10 with fail
          refine wp_region_aftB (by kernel_rfl) (by kernel_rfl) ?_
          repeat (go_big_quiet_step ((first | exact rCompare_aftB HR.out _ | exact rEmpty_aftB (t := k) rfl rfl rfl HE.out _ | exact hIH _)))
          refine wpQuiet_nil ?_
          intro w7 B7
          clear a_z0 a_z1 a_z2 a_q0 a_d0 a_d1 a_d2 hIH a_q1 d0 d1 d2 
          have RES := Lib.hid (HBAD.out (by rw [HOK.out, HI.out, HE.out]; simp))
          go_wp2
          go_ret
          exact ⟨by rw [RES.out]; rfl, by have := below_trans BA (BB.trans (B7.mono BB.size)); rwa [hb3] at this⟩
        | false =>
          go_upto_region 10 with fail
          refine wp_region_aftB (by kernel_rfl) (by kernel_rfl) ?_
          repeat (go_big_quiet_step ((first | exact rCompare_aftB HR.out _ | exact rEmpty_aftB (t := k) rfl rfl rfl HE.out _ | exact hIH _)))
          refine wpQuiet_nil ?_
          intro w7 B7
          clear a_z0 a_z1 a_z2 a_q0 a_d0 a_d1 a_d2 hIH a_q1 d0 d1 d2 
          cases vk with
          | true =>
            have VN := Lib.hid (HNEXT.out (by rw [HOK.out, HI.out, HE.out, HVK.out]; simp))
            have B8 := BB.trans (B7.mono BB.size)
            go_wp2
            try rw [← ek]
            try rw [← ev]
            go_roundg (t.ks.length - (0 + 1))
            case measure => omega
            case rel => exact ⟨0 + 1, by go_num, hlt, Nat.le_refl _, VN, B8⟩
          | false =>
            have RES := Lib.hid (HBAD.out (by rw [HOK.out, HI.out, HE.out, HVK.out]; simp))
            go_wp2
            go_ret
            exact ⟨by rw [RES.out]; rfl, by have := below_trans BA (BB.trans (B7.mono BB.size)); rwa [hb3] at this⟩
      · have hip : (0 : Int) < (i : Int) := by omega
        have hip' : 0 < i := by omega
        obtain ⟨i', hi'⟩ : ∃ i', i = i' + 1 := ⟨i - 1, by omega⟩
        have hi1 : (i : Int) - 1 = (i' : Int) := by omega
        have hi2 : (i' : Int) < (t.vs.length : Int) := by omega
        have hwi : IntKind.i64.wrap (i' : Int) = (i' : Int) := by rw [IntKind.wrap_i64]; omega
        obtain ⟨x, hx⟩ := getElem_of_lt (l := t.vs) (i := i') (by omega)
        obtain ⟨bv', ov', ev', c0, c1, c2⟩ := vals_at' (hvs.keep B) hx
        rw [ev] at ev'
        cases ev'
        unfold strV at c2
        have a_c0 := AftB.cell c0
        have a_c1 := AftB.cell c1
        have a_c2 := AftB.cell c2
        obtain ⟨r, hr⟩ : ∃ r, cmpV x y = r := ⟨_, rfl⟩
        have HR := Lib.hid hr
        have HI := Lib.hid (show incAt t.vs i = decide (r < 0) by unfold incAt; rw [decide_eq_false hi0, Bool.false_or, show i - 1 = i' from by omega, hx, HY.out, ← hr])
        have HII := Lib.hid hi'
        clear hr hx hi' c0 c1 c2 q1'
        by_cases hr0 : 0 ≤ r
        · have hrd : decide (r < 0) = false := decide_eq_false (by omega)
          rw [hrd] at HI
          clear hrd
          go_upto_region 10 with fail
          refine wp_region_aftB (by kernel_rfl) (by kernel_rfl) ?_
          repeat (go_big_quiet_step ((first | exact rCompare_aftB HR.out _ | exact rEmpty_aftB (t := k) rfl rfl rfl HE.out _ | exact hIH _)))
          refine wpQuiet_nil ?_
          intro w7 B7
          clear a_z0 a_z1 a_z2 a_q0 a_d0 a_d1 a_d2 a_c0 a_c1 a_c2 hIH a_q1 d0 d1 d2
          have RES := Lib.hid (HBAD.out (by rw [HOK.out, HI.out]; simp))
          go_wp2
          go_ret
          exact ⟨by rw [RES.out]; rfl, by have := below_trans BA (BB.trans (B7.mono BB.size)); rwa [hb3] at this⟩
        · have hrd : decide (r < 0) = true := decide_eq_true (by omega)
          rw [hrd] at HI
          clear hrd
          cases e with
          | true =>
            go_upto_region 10 with fail
            refine wp_region_aftB (by kernel_rfl) (by kernel_rfl) ?_
            repeat (go_big_quiet_step ((first | exact rCompare_aftB HR.out _ | exact rEmpty_aftB (t := k) rfl rfl rfl HE.out _ | exact hIH _)))
            refine wpQuiet_nil ?_
            intro w7 B7
            clear a_z0 a_z1 a_z2 a_q0 a_d0 a_d1 a_d2 hIH a_q1 d0 d1 d2 a_c0 a_c1 a_c2
            have RES := Lib.hid (HBAD.out (by rw [HOK.out, HI.out, HE.out]; simp))
            go_wp2
            go_ret
            exact ⟨by rw [RES.out]; rfl, by have := below_trans BA (BB.trans (B7.mono BB.size)); rwa [hb3] at this⟩
          | false =>
            go_upto_region 10 with fail
            refine wp_region_aftB (by kernel_rfl) (by kernel_rfl) ?_
            repeat (go_big_quiet_step ((first | exact rCompare_aftB HR.out _ | exact rEmpty_aftB (t := k) rfl rfl rfl HE.out _ | exact hIH _)))
            refine wpQuiet_nil ?_
            intro w7 B7
            clear a_z0 a_z1 a_z2 a_q0 a_d0 a_d1 a_d2 hIH a_q1 d0 d1 d2 a_c0 a_c1 a_c2
            cases vk with
            | true =>
              have VN := Lib.hid (HNEXT.out (by rw [HOK.out, HI.out, HE.out, HVK.out]; simp))
              have B8 := BB.trans (B7.mono BB.size)
              go_wp2
              try rw [← ek]
              try rw [← ev]
              go_roundg (t.ks.length - (i + 1))
              case measure => omega
              case rel => exact ⟨i + 1, by go_num, hlt, Nat.le_refl _, VN, B8⟩
            | false =>
              have RES := Lib.hid (HBAD.out (by rw [HOK.out, HI.out, HE.out, HVK.out]; simp))
              go_wp2
              go_ret
              exact ⟨by rw [RES.out]; rfl, by have := below_trans BA (BB.trans (B7.mono BB.size)); rwa [hb3] at this⟩
    · have hltz : ¬ (i : Int) < (t.ks.length : Int) := by omega
      have hltv : ¬ (i : Int) < (t.vs.length : Int) := by rw [← HKV.out]; exact hltz
      have q0' := cell_keep B q0
      have RES := Lib.hid (HG.out HNS.out HKV.out (fun j hj => V.out j (by omega)))
      go_wp2
      go_ret
      exact ⟨by rw [RES.out]; rfl, by have := below_trans BA B; rwa [hb3] at this⟩
theorem rvalid_all : ∀ n : Nat, n ≤ 4 → RValC n
  | 0, _ => rvalid_zero
  | n + 1, h => rvalid_succ n h (rvalid_all n (by omega))
set_option maxHeartbeats 4000000 in
set_option maxRecDepth 1000000 in
theorem rTValid_any (columns : Int) (t : TR) (w : World) (ht : TrOk w t) (hl : Lim t.tr) : Calls Tryd.prog 61 #[.int .i64 columns, trV t] w fun e w' => e = .returned (.bool (validC columns t.tr)) ∧ Below w.heap.size w w' := by
  by_cases hc : 0 ≤ columns ∧ columns ≤ 4
  · obtain ⟨n, rfl⟩ : ∃ n : Nat, columns = n := ⟨columns.toNat, by omega⟩
    unfold validC
    rw [if_pos hc, Int.toNat_natCast]
    exact rvalid_all n (by omega) t w ht hl
  · unfold validC
    rw [if_neg hc]
    unfold trV
    have BA := below_new w (.cells #[t.vv, t.kv, t.wv] 64)
    obtain ⟨wA, hwA⟩ : ∃ z, w.alloc (.cells #[t.vv, t.kv, t.wv] 64) = z := ⟨_, rfl⟩
    rw [hwA] at BA
    clear ht hl
    by_cases hd1 : columns < 0
    · clear hc
      go_enter Tryd.func61, Tryd.ntmps61
      go_wp2
      go_ret
      exact ⟨rfl, BA⟩
    · have hd2 : 4 < columns := by omega
      clear hc
      go_enter Tryd.func61, Tryd.ntmps61
      go_wp2
      go_ret
      exact ⟨rfl, BA⟩
end Go.Proofs.YtdibijhaiaiifaaDoor
