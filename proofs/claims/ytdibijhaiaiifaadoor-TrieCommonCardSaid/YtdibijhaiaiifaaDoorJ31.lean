/- Parts Zp, Zq, Zr, Zs, Zu, Zt: words, walks and laws that the claims of this seat share. -/
import Derived.Test.YtdibijhaiaiifaaDoorJ29
/- The walk of starts. -/
namespace Go.Proofs.YtdibijhaiaiifaaDoor
open Go.RowKit
def StartsW (columns : Int) (v : Vl) (x : Rw) : Prop := (x.1.length : Int) = columns ∧ 0 < columns ∧ fst? x.1 = some v
def StartRet (columns : Int) (xs : List RR) (v : Vl) (w : World) (e : Ending) (w' : World) : Prop := ∃ b, e = .returned (.bool b) ∧ Hid (∃ zs, CanOf xs zs ∧ (b = true ↔ ∃ x ∈ rows zs, StartsW columns v x)) ∧ Below w.heap.size w w'
set_option maxHeartbeats 4000000 in
set_option maxRecDepth 1000000 in
theorem starts_any (columns : Int) (va : Value) (xs : List RR) (v : Vl) (w : World) (hT : Tab w) (ha : IsRel w va xs) (sa : Sml 10000 xs) : Calls Tryd.prog 68 #[.int .i64 columns, va, valV v] w (StartRet columns xs v w) := by
  obtain ⟨pa, ca, rfl, -⟩ := ha.shape
  have SA := Lib.hid sa
  clear sa
  unfold valV strV
  have V := Cel.new w 58 [.int .i64 v.t, .int .i64 v.n, .string ⟨v.s.toArray⟩]
  have B1 := below_new w (.cells #[.int .i64 v.t, .int .i64 v.n, .string ⟨v.s.toArray⟩] 58)
  go_enter Tryd.func68, Tryd.ntmps68
  go_upto_region 1 with fail
  obtain ⟨w1, hw1⟩ : ∃ z, w.alloc (.cells #[.int .i64 v.t, .int .i64 v.n, .string ⟨v.s.toArray⟩] 58) = z := ⟨_, rfl⟩
  replace V : Cel w1 w.heap.size 58 [.int .i64 v.t, .int .i64 v.n, .string ⟨v.s.toArray⟩] := by rw [← hw1]; exact V
  rw [hw1] at B1
  rw [hw1]
  clear hw1
  have HB := Lib.hid B1
  obtain ⟨b5, hb5⟩ : ∃ b, w.heap.size = b := ⟨_, rfl⟩
  rw [hb5] at V
  rw [hb5]
  clear hb5
  replace hT := hT.keep B1
  replace ha := ha.keep B1
  go_wp2_with fail
  refine (UnionR_any _ _ xs [] _ hT ha (IsRel.nil _) SA.out (Sml.nil _)).mono ?_
  rintro e w2 ⟨u, rfl, zs, Rz, Oz, B2⟩
  have R := Rz.rel
  have HZ := Lib.hid (canOf_op Oz)
  have hzl : zs.length ≤ 10000 := (HZ.out.sml _ SA.out).len
  clear Rz Oz
  replace V := V.keep B2
  replace HB := Lib.hid (below_trans HB.out B2)
  obtain ⟨pu, cu, rfl, -⟩ := R.shape
  obtain ⟨nz, hnz⟩ : ∃ n, zs.length = n := ⟨_, rfl⟩
  rw [hnz] at R hzl
  rw [hnz]
  have HNZ := Lib.hid hnz
  have v0 := V.at_ (j := 0) rfl
  have v1 := V.at_ (j := 1) rfl
  have v2 := V.at_ (j := 2) rfl
  clear hnz hT ha B1 B2
  go_wp2
  go_loopg [8] nz (fun g vi wr => ∃ i : Nat, vi = .int .i64 i ∧ i ≤ nz ∧ nz - i ≤ g ∧ Hid (∀ x ∈ (rows zs).take i, ¬ StartsW columns v x) ∧ Below w2.heap.size w2 wr)
  case atStart => exact ⟨0, rfl, Nat.zero_le _, Nat.le_refl _, Lib.hid (by simp), Below.refl _ _⟩
  case round =>
    obtain ⟨i, rfl, hi, hg, W, B⟩ := hrel
    by_cases hlt : i < nz
    · have hltz : (i : Int) < (nz : Int) := by omega
      obtain ⟨x, hx⟩ := getElem_of_lt (l := zs) (i := i) (by have := HNZ.out; omega)
      obtain ⟨b1, o1, e, c0, -, rx⟩ := (R.keep B).at_ hx
      cases e
      have a_v0 := AftB.cell (cell_keep B v0)
      have a_v1 := AftB.cell (cell_keep B v1)
      have a_v2 := AftB.cell (cell_keep B v2)
      have VN := Lib.hid (show ¬ StartsW columns v x.rw → ∀ y ∈ (rows zs).take (i + 1), ¬ StartsW columns v y from fun h y hy => by
        rw [take_succ' (rows_at hx)] at hy
        rcases List.mem_append.1 hy with hy | hy
        · exact W.out y hy
        · rw [List.mem_singleton.1 hy]; exact h)
      have VY := Lib.hid (show StartsW columns v x.rw → ∃ y ∈ rows zs, StartsW columns v y from fun h => ⟨x.rw, List.mem_of_getElem? (rows_at hx), h⟩)
      clear hx
      by_cases hc : (x.t.length : Int) = columns ∧ 0 < columns
      · obtain ⟨hc1, hc2⟩ := hc
        have hcb : ((x.t.length : Int) == columns) = true := by rw [beq_iff_eq]; exact hc1
        obtain ⟨y, hy⟩ := getV (l := x.t) (i := 0) (by omega)
        obtain ⟨vb, vo, ev, d0, d1, d2⟩ := vals_at' rx.vals hy
        rw [Nat.zero_mul, Nat.add_zero] at d0 d1 d2
        have hav : x.av = .slice (some ⟨vb, vo, none⟩) x.t.length x.ca := by show Value.slice x.pa _ _ = _; rw [ev]
        rw [hav] at c0
        have hxz : (0 : Int) < (x.t.length : Int) := by omega
        obtain ⟨q, hq⟩ : ∃ q, decide (y = v) = q := ⟨_, rfl⟩
        have hqr : ∀ w, (binOp .eql 58 (.agg #[.int .i64 y.t, .int .i64 y.n, strV y.s]) (.agg #[.int .i64 v.t, .int .i64 v.n, strV v.s])).run Tryd.prog w = .ok (.bool q) w := fun w => by rw [← hq]; exact run_eq_vl y v w
        have hgd := run_guard_vl .eql
        unfold strV at hqr d2
        have HC1 := Lib.hid hc1
        have HC2 := Lib.hid hc2
        have HYY := Lib.hid hy
        have HQ := Lib.hid hq
        have a_c0 := AftB.cell c0
        have a_d0 := AftB.cell d0
        have a_d1 := AftB.cell d1
        have a_d2 := AftB.cell d2
        clear hc1 hq hy ev hav c0 d0 d1 d2 rx
        go_upto_region 5 with fail
        refine wp_region_aftB (by kernel_rfl) (by kernel_rfl) ?_
        repeat (go_big_quiet_step (fail))
        refine wpQuiet_nil ?_
        intro w6 B6
        have BB := B.trans (B6.mono B.size)
        clear a_c0 a_d0 a_d1 a_d2 a_v0 a_v1 a_v2 hqr hgd
        cases q with
        | true =>
          have RES := Lib.hid (VY.out ⟨HC1.out, HC2.out, by show x.t[0]? = _; rw [HYY.out, of_decide_eq_true HQ.out]⟩)
          go_wp2
          go_ret
          exact ⟨true, rfl, Lib.hid ⟨zs, HZ.out, ⟨fun _ => RES.out, fun _ => rfl⟩⟩, below_trans HB.out BB⟩
        | false =>
          have VX := Lib.hid (VN.out fun h => of_decide_eq_false HQ.out (by
            have h := h.2.2
            have h : x.t[0]? = some v := h
            rw [HYY.out] at h
            injection h))
          go_wp2
          go_roundg (nz - (i + 1))
          case measure => omega
          case rel => exact ⟨i + 1, by go_num, hlt, Nat.le_refl _, VX, BB⟩
      · have VX := Lib.hid (VN.out fun h => hc ⟨h.1, h.2.1⟩)
        have a_c0 := AftB.cell c0
        by_cases hc1 : (x.t.length : Int) = columns
        · have hcb : ((x.t.length : Int) == columns) = true := by rw [beq_iff_eq]; exact hc1
          have hc2 : ¬ 0 < columns := fun h => hc ⟨hc1, h⟩
          have hc3 : columns ≤ 0 := by omega
          clear hc hc1 c0 rx
          go_upto_region 5 with fail
          refine wp_region_aftB (by kernel_rfl) (by kernel_rfl) ?_
          repeat (go_big_quiet_step (fail))
          refine wpQuiet_nil ?_
          intro w6 B6
          have BB := B.trans (B6.mono B.size)
          clear a_c0 a_v0 a_v1 a_v2
          go_wp2
          go_roundg (nz - (i + 1))
          case measure => omega
          case rel => exact ⟨i + 1, by go_num, hlt, Nat.le_refl _, VX, BB⟩
        · have hcb : ((x.t.length : Int) == columns) = false := by rw [beq_eq_false_iff_ne]; exact hc1
          clear hc hc1 c0 rx
          go_upto_region 5 with fail
          refine wp_region_aftB (by kernel_rfl) (by kernel_rfl) ?_
          repeat (go_big_quiet_step (fail))
          refine wpQuiet_nil ?_
          intro w6 B6
          have BB := B.trans (B6.mono B.size)
          clear a_c0 a_v0 a_v1 a_v2
          go_wp2
          go_roundg (nz - (i + 1))
          case measure => omega
          case rel => exact ⟨i + 1, by go_num, hlt, Nat.le_refl _, VX, BB⟩
    · have hltz : ¬ (i : Int) < (nz : Int) := by omega
      have RES := Lib.hid (show ¬ ∃ x ∈ rows zs, StartsW columns v x from fun ⟨x, hx, h⟩ => W.out x (by rwa [List.take_of_length_le (by rw [rows_length, HNZ.out]; omega)]) h)
      go_wp2
      go_ret
      exact ⟨false, rfl, Lib.hid ⟨zs, HZ.out, ⟨fun h => (by cases h), fun h => absurd h RES.out⟩⟩, below_trans HB.out B⟩
end Go.Proofs.YtdibijhaiaiifaaDoor
/- The plain laws of tries. -/
namespace Go.Proofs.YtdibijhaiaiifaaDoor
/-- What is known of a built trie. -/
theorem built_facts {columns : Int} {xs : List RR} {t : TR} (h : BuiltOf columns xs t.tr) (sa : Sml 10000 xs) : IncV t.vs ∧ t.vs.length ≤ 100000 ∧ Sq t.tr ∧ Lim t.tr := by
  obtain ⟨n, F, -, h2, h3, h4⟩ := built_gd h sa
  have hl : Lim t.tr := by rw [h4]; exact lim_build h2 h3
  refine ⟨?_, ?_, by rw [h4]; exact sq_build h2 h3, hl⟩
  · have := incV_build h2
    rwa [← h4, TR.tr_vs] at this
  · have := hl.len
    rw [TR.tr_vs] at this
    omega
theorem mom_cut {columns : Int} : ∀ (F : List Rw) (t : Tp) (k : Nat), mom (F.filter fun x => decide ((x.1.length : Int) = columns)) t k = (decide ((t.length : Int) = columns) && mom F t k)
  | [], t, k => by simp [mom_nil]
  | x :: F, t, k => by
    rw [List.filter_cons, mom_cons]
    by_cases h : (x.1.length : Int) = columns
    · rw [if_pos (decide_eq_true h), mom_cons, mom_cut F t k]
      by_cases e : x.1 = t
      · rw [← e, decide_eq_true h]; simp
      · simp [e]
    · rw [if_neg (by simpa using h), mom_cut F t k]
      by_cases e : x.1 = t
      · rw [← e, decide_eq_false h]; simp
      · simp [e]
theorem can_cut {columns : Int} {F : List Rw} (h : IsCan F) : IsCan (F.filter fun x => decide ((x.1.length : Int) = columns)) := ⟨upW_filter h.1, fun x hx => h.2 x (List.mem_filter.1 hx).1⟩
theorem fitF_can {columns : Int} {xs : List RR} {F : List Rw} (h : FitF columns xs F) : IsCan F := by
  obtain ⟨zs, h1, rfl⟩ := h
  exact can_cut h1.can
theorem fitF_mom {columns : Int} {xs : List RR} {F : List Rw} (h : FitF columns xs F) {t : Tp} {k : Nat} (hk : k < 64) : mom F t k = (decide ((t.length : Int) = columns) && mom (rows xs) t k) := by
  obtain ⟨zs, h1, rfl⟩ := h
  rw [mom_cut, h1.mom t k hk]
theorem fitF_ext {columns : Int} {xs : List RR} {F G : List Rw} (h : FitF columns xs F) (hG : IsCan G) (hm : ∀ t k, k < 64 → mom G t k = (decide ((t.length : Int) = columns) && mom (rows xs) t k)) : F = G :=
  can_ext _ _ (fitF_can h) hG fun t k hk => by rw [fitF_mom h hk, hm t k hk]
section
variable {columns : Int} {xs ys : List RR} {t u : Tr} (h0 : 0 ≤ columns) (h4 : columns ≤ 4)
include h0 h4
theorem built_fit (h : BuiltOf columns xs t) : ∃ F, FitF columns xs F ∧ Gd columns.toNat F ∧ t = buildT columns.toNat F ∧ rowsT columns t = F := by
  unfold BuiltOf at h
  rw [if_pos ⟨h0, h4⟩] at h
  obtain ⟨F, h1, rfl⟩ := h
  exact ⟨F, h1, fitF_gd h1 h0, rfl, rows_build h0 h4 (fitF_gd h1 h0)⟩
theorem same_built (h : BuiltOf columns xs t) (k : Tr) : sameT 8 t k = true ↔ t = k := by
  obtain ⟨F, -, h2, rfl, -⟩ := built_fit h0 h4 h
  exact same_build h2 (by omega)
/-- Two tries are equal exactly if their rows are. -/
theorem law15_iff (h : BuiltOf columns xs t) (k : BuiltOf columns ys u) : sameT 8 t u = decide (rowsT columns t = rowsT columns u) := by
  rw [Bool.eq_iff_iff, decide_eq_true_iff, same_built h0 h4 h]
  obtain ⟨F, -, h2, rfl, h3⟩ := built_fit h0 h4 h
  obtain ⟨G, -, k2, rfl, k3⟩ := built_fit h0 h4 k
  rw [h3, k3]
  exact ⟨fun e => build_inj h2 k2 e, fun e => by rw [e]⟩
theorem law15_sum {us : List RR} {p q : Tr} (hu : OpOf opU xs ys us) (hp : BuiltOf columns us p) {cs : List RR} (hc : rows cs = rows ys ++ rows xs) (hq : BuiltOf columns cs q) : sameT 8 p q = true := by
  rw [same_built h0 h4 hp]
  obtain ⟨F, h1, -, rfl, -⟩ := built_fit h0 h4 hp
  obtain ⟨G, k1, -, rfl, -⟩ := built_fit h0 h4 hq
  congr 1
  refine fitF_ext h1 (fitF_can k1) fun t k hk => ?_
  rw [fitF_mom k1 hk, hc, mom_append, hu.mom t k hk]
  show _ = (_ && (mom (rows xs) t k || mom (rows ys) t k))
  rw [Bool.or_comm]
theorem law15_same {us : List RR} {p : Tr} (h : BuiltOf columns xs t) (k : BuiltOf columns ys u) (e : rowsT columns t = rowsT columns u) (hu : OpOf opU xs ys us) (hp : BuiltOf columns us p) : sameT 8 p t = true := by
  rw [same_built h0 h4 hp]
  obtain ⟨F, h1, -, rfl, h3⟩ := built_fit h0 h4 h
  obtain ⟨G, k1, -, rfl, k3⟩ := built_fit h0 h4 k
  obtain ⟨H, l1, -, rfl, -⟩ := built_fit h0 h4 hp
  rw [h3, k3] at e
  subst e
  congr 1
  refine fitF_ext l1 (fitF_can h1) fun t k hk => ?_
  have a := fitF_mom h1 (t := t) hk
  have b := fitF_mom k1 (t := t) hk
  rw [hu.mom t k hk]
  show _ = (_ && (mom (rows xs) t k || mom (rows ys) t k))
  rw [Bool.and_or_distrib_left, ← a, ← b, Bool.or_self]
end
/-! ### common values -/
theorem firsts {columns : Int} {xs : List RR} {t : Tr} (h0 : 0 ≤ columns) (h4 : columns ≤ 4) (h : BuiltOf columns xs t) {zs : List RR} (hz : CanOf xs zs) (v : Vl) : v ∈ t.vs ↔ ∃ x ∈ rows zs, StartsW columns v x := by
  obtain ⟨F, h1, h2, rfl, -⟩ := built_fit h0 h4 h
  obtain ⟨zs', h3, rfl⟩ := h1
  rw [canOf_eq h3 hz] at h2 ⊢
  obtain ⟨n, hn⟩ : ∃ n, columns.toNat = n := ⟨_, rfl⟩
  rw [hn] at h2 ⊢
  constructor
  · intro hv
    cases n with
    | zero => simp [buildT, Tr.vs] at hv
    | succ n =>
      obtain ⟨G, hG, hGd⟩ := split_gd _ h2
      rw [hG, build_join hGd] at hv
      obtain ⟨g, hg, rfl⟩ := List.mem_map.1 (show v ∈ G.map (·.1) from hv)
      obtain ⟨y, hy⟩ := List.exists_mem_of_ne_nil _ (gdg_mem hGd hg).2
      have hm : consW g.1 y ∈ joinG G := mem_join.2 ⟨g, hg, y, hy, rfl⟩
      rw [← hG] at hm
      obtain ⟨h5, h6⟩ := List.mem_filter.1 hm
      exact ⟨_, h5, of_decide_eq_true h6, by omega, rfl⟩
  · rintro ⟨x, hx, hl, hc, hf⟩
    have hm : x ∈ (rows zs).filter fun x => decide ((x.1.length : Int) = columns) := List.mem_filter.2 ⟨hx, decide_eq_true hl⟩
    cases n with
    | zero => omega
    | succ n =>
      obtain ⟨G, hG, hGd⟩ := split_gd _ h2
      rw [hG] at hm ⊢
      rw [build_join hGd]
      obtain ⟨g, hg, y, hy, rfl⟩ := mem_join.1 hm
      have : g.1 = v := by injection hf
      rw [← this]
      exact List.mem_map_of_mem (f := (·.1)) hg
theorem common_perm {a b c : Tr} (ha : IncV a.vs) (hb : IncV b.vs) (hc : IncV c.vs) : commonL [a, b, c] = commonL [c, a, b] := by
  have h1 := common_rising (ts := [a, b, c]) (by simp [ha, hb, hc])
  have h2 := common_rising (ts := [c, a, b]) (by simp [ha, hb, hc])
  have hm : ∀ v, v ∈ commonL [a, b, c] ↔ v ∈ commonL [c, a, b] := fun v => by
    rw [mem_common (by simp), mem_common (by simp)]
    simp only [List.mem_cons, List.not_mem_nil, or_false, forall_eq_or_imp, forall_eq]
    constructor
    · rintro ⟨x, y, z⟩; exact ⟨z, x, y⟩
    · rintro ⟨x, y, z⟩; exact ⟨y, z, x⟩
  exact rising_ext h1 h2 hm
where
  rising_ext : ∀ {l m : List Vl}, Rising l → Rising m → (∀ v, v ∈ l ↔ v ∈ m) → l = m
  | [], [], _, _, _ => rfl
  | [], y :: m, _, _, h => by have := (h y).2 (List.mem_cons_self ..); simp at this
  | x :: l, [], _, _, h => by have := (h x).1 (List.mem_cons_self ..); simp at this
  | x :: l, y :: m, hl, hm, h => by
    have hl' := List.pairwise_cons.1 hl
    have hm' := List.pairwise_cons.1 hm
    have e : x = y := by
      rcases List.mem_cons.1 ((h x).1 (List.mem_cons_self ..)) with e | e
      · exact e
      · rcases List.mem_cons.1 ((h y).2 (List.mem_cons_self ..)) with e' | e'
        · exact e'.symm
        · have a := hm'.1 x e
          have b := hl'.1 y e'
          have := cmpV_is.anti x y
          omega
    subst e
    congr 1
    refine rising_ext hl'.2 hm'.2 fun v => ?_
    constructor
    · intro hv
      rcases List.mem_cons.1 ((h v).1 (List.mem_cons_of_mem _ hv)) with e | e
      · have := hl'.1 v hv
        rw [e, cmpV_is.refl] at this; omega
      · exact e
    · intro hv
      rcases List.mem_cons.1 ((h v).2 (List.mem_cons_of_mem _ hv)) with e | e
      · have := hm'.1 v hv
        rw [e, cmpV_is.refl] at this; omega
      · exact e
theorem common_one {a : Tr} : commonL [a] = a.vs := by
  show a.vs.filter (allIn [a]) = a.vs
  refine List.filter_eq_self.2 fun v hv => ?_
  unfold allIn
  simp [hv]
end Go.Proofs.YtdibijhaiaiifaaDoor
/- The plain facts of the law TrieInverse. -/
namespace Go.Proofs.YtdibijhaiaiifaaDoor
theorem validC_built {columns : Int} {xs : List RR} {t : Tr} (h0 : 0 ≤ columns) (h4 : columns ≤ 4) (h : BuiltOf columns xs t) : validC columns t = true := by
  obtain ⟨F, -, hg, rfl, -⟩ := built_fit h0 h4 h
  unfold validC
  rw [if_pos ⟨h0, h4⟩]
  exact build_valid hg
theorem rows_built {columns : Int} {xs us L : List RR} {t : Tr} (h0 : 0 ≤ columns) (h4 : columns ≤ 4) (h : BuiltOf columns xs t) (hu : OpOf opU xs [] us) (hL : rows L = (rows us).filter fun x => decide ((x.1.length : Int) = columns)) : rowsT columns t = rows L := by
  obtain ⟨F, hF, -, -, hr⟩ := built_fit h0 h4 h
  rw [hr]
  exact fitF_eq hF ⟨us, canOf_op hu, hL⟩
theorem gd_can {n : Nat} {F : List Rw} (h : Gd n F) : IsCan F := ⟨h.up, h.ok⟩
theorem gd_mom {n : Nat} : ∀ {F : List Rw}, Gd n F → ∀ (t : Tp) (k : Nat), t.length ≠ n → mom F t k = false
  | [], _, _, _, _ => mom_nil _ _
  | x :: F, h, t, k, ht => by
    rw [mom_cons, gd_mom h.tail t k ht, Bool.or_false]
    have : x.1 ≠ t := fun e => ht (by rw [← e]; exact h.len x (by simp))
    rw [decide_eq_false this, Bool.false_and]
theorem raw_back {columns : Int} {l : List RR} {r t : Tr} (h0 : 0 ≤ columns) (h4 : columns ≤ 4) (hv : validC columns r = true) (hl : rows l = rowsT columns r) (hB : BuiltOf columns l t) : t = r := by
  unfold validC at hv
  rw [if_pos ⟨h0, h4⟩] at hv
  obtain ⟨F, hF, rfl⟩ := valid_gd hv
  rw [rows_build h0 h4 hF] at hl
  obtain ⟨G, hG, -, rfl, -⟩ := built_fit h0 h4 hB
  rw [fitF_ext hG (gd_can hF) fun t k hk => ?_]
  rw [hl]
  by_cases e : (t.length : Int) = columns
  · rw [decide_eq_true e, Bool.true_and]
  · rw [decide_eq_false e, Bool.false_and]
    exact gd_mom hF t k (by omega)
theorem raw_sml {columns : Int} {l : List RR} {r : Tr} (h0 : 0 ≤ columns) (h4 : columns ≤ 4) (hv : validC columns r = true) (hs : SmallT r) (hl : rows l = rowsT columns r) : Sml 10000 l := by
  have hn := small_rows hs columns
  unfold validC at hv
  rw [if_pos ⟨h0, h4⟩] at hv
  obtain ⟨F, hF, rfl⟩ := valid_gd hv
  rw [rows_build h0 h4 hF] at hl hn
  have hlen : l.length = F.length := by rw [← hl, rows_length]
  refine ⟨by omega, fun x hx => ?_⟩
  have hm : x.rw ∈ F := by rw [← hl]; exact List.mem_map.2 ⟨x, hx, rfl⟩
  have h1 : x.t.length = columns.toNat := hF.len _ hm
  have h2 : OkW x.s := hF.ok _ hm
  exact ⟨by omega, Nat.le_trans (okW_len h2) (by decide)⟩
theorem raw_same {columns : Int} {l : List RR} {r t : Tr} (h0 : 0 ≤ columns) (h4 : columns ≤ 4) (hv : validC columns r = true) (hl : rows l = rowsT columns r) (hB : BuiltOf columns l t) : sameT 8 t r = true := (same_built h0 h4 hB r).2 (raw_back h0 h4 hv hl hB)
end Go.Proofs.YtdibijhaiaiifaaDoor
/- The plain facts of the law TriePrefixes. -/
namespace Go.Proofs.YtdibijhaiaiifaaDoor
theorem mom_pick (P : Tp → Bool) : ∀ (F : List Rw) (t : Tp) (k : Nat), mom (F.filter fun x => P x.1) t k = (P t && mom F t k)
  | [], t, k => by simp [mom_nil]
  | x :: F, t, k => by
    rw [List.filter_cons, mom_cons]
    by_cases h : P x.1 = true
    · rw [if_pos h, mom_cons, mom_pick P F t k]
      by_cases e : x.1 = t
      · rw [← e, h]; simp
      · simp [e]
    · rw [if_neg h, mom_pick P F t k]
      by_cases e : x.1 = t
      · rw [← e, Bool.eq_false_iff.2 h]; simp
      · simp [e]
theorem can_pick {P : Tp → Bool} {F : List Rw} (h : IsCan F) : IsCan (F.filter fun x => P x.1) := ⟨upW_filter h.1, fun x hx => h.2 x (List.mem_filter.1 hx).1⟩
/-- The terms of a beginning: its values, and different variables behind them. -/
def TermsI (p : List Vl) (ts : List Tm) : Prop := ∀ (j : Nat) (m : Tm), ts[j]? = some m → (j < p.length → m.v = [] ∧ p[j]? = some m.c) ∧ (p.length ≤ j → m.v = [88, UInt8.ofNat (48 + j)])
theorem TermsI.nil (p : List Vl) : TermsI p [] := fun j m h => by simp at h
theorem TermsI.push {p : List Vl} {ts : List Tm} {c : Tm} (h : TermsI p ts) (h1 : ts.length < p.length → c.v = [] ∧ p[ts.length]? = some c.c) (h2 : p.length ≤ ts.length → c.v = [88, UInt8.ofNat (48 + ts.length)]) : TermsI p (ts ++ [c]) := fun j m hj => by
  by_cases hl : j < ts.length
  · rw [List.getElem?_append_left hl] at hj
    exact h j m hj
  · rw [List.getElem?_append_right (by omega)] at hj
    have e : j = ts.length := by
      have := (List.getElem?_eq_some_iff.1 hj).1
      simp at this
      omega
    subst e
    simp at hj
    subst hj
    exact ⟨h1, h2⟩
theorem name_inj : ∀ i, i < 4 → ∀ j, j < 4 → UInt8.ofNat (48 + i) = UInt8.ofNat (48 + j) → i = j := by decide
theorem terms_match {p : List Vl} {ts : List Tm} (h : TermsI p ts) (hp : p.length ≤ ts.length) (hn : ts.length ≤ 4) (t : Tp) : matchL ts t = (decide (t.length = ts.length) && begins p t) := by
  by_cases hl : t.length = ts.length
  case neg => unfold matchL; rw [decide_eq_false hl]; rfl
  case pos =>
    rw [decide_eq_true hl, Bool.true_and]
    have hfirst : ∀ (j : Nat) (m : Tm), ts[j]? = some m → p.length ≤ j → firstOf ts m.v = j := fun j m hj hpj => by
      have hle := firstOf_le hj
      have hjl := (List.getElem?_eq_some_iff.1 hj).1
      have hlt : firstOf ts m.v < ts.length := by omega
      have hq := List.findIdx_getElem (p := fun u : Tm => decide (u.v = m.v)) (xs := ts) (w := hlt)
      rw [decide_eq_true_eq] at hq
      obtain ⟨f, hf⟩ : ∃ f, firstOf ts m.v = f := ⟨_, rfl⟩
      have hf' : List.findIdx (fun u : Tm => decide (u.v = m.v)) ts = f := hf
      rw [hf] at hle hlt ⊢
      have hq2 : ∃ q, ts[f]? = some q ∧ q.v = m.v := ⟨ts[f], List.getElem?_eq_getElem hlt, by simp only [hf'] at hq; exact hq⟩
      obtain ⟨q, hq1, hq2⟩ := hq2
      have hm := (h j m hj).2 hpj
      by_cases hc : f < p.length
      · have := ((h f q hq1).1 hc).1
        rw [this, hm] at hq2
        cases hq2
      · have := (h f q hq1).2 (by omega)
        rw [this, hm] at hq2
        have e : UInt8.ofNat (48 + f) = UInt8.ofNat (48 + j) := by simpa using hq2
        exact name_inj f (by omega) j (by omega) e
    by_cases hb : t.take p.length = p
    · unfold begins
      rw [decide_eq_true hb]
      refine match_all hl fun j hj => ?_
      have hm : ts[j]? = some ts[j] := List.getElem?_eq_getElem hj
      have ht : t[j]? = some (t[j]'(by omega)) := List.getElem?_eq_getElem (by omega)
      by_cases hc : j < p.length
      · obtain ⟨h1, h2⟩ := (h j _ hm).1 hc
        rw [okAt_const hm ht h1, decide_eq_true_iff]
        have : p[j]? = t[j]? := by rw [← hb, List.getElem?_take, if_pos hc]
        rw [h2, ht] at this
        exact (Option.some.inj this).symm
      · have h1 := (h j _ hm).2 (by omega)
        rw [okAt_var hm ht (by rw [h1]; simp) (z := t[j]'(by omega)) (by rw [hfirst j _ hm (by omega)]; exact ht)]
        exact decide_eq_true rfl
    · unfold begins
      rw [decide_eq_false hb]
      obtain ⟨j, hj⟩ : ∃ j, j < p.length ∧ t[j]? ≠ p[j]? := by
        refine Classical.byContradiction fun hno => hb ?_
        refine List.ext_getElem? fun j => ?_
        rw [List.getElem?_take]
        by_cases hc : j < p.length
        · rw [if_pos hc]
          exact Classical.byContradiction fun hne => hno ⟨j, hc, hne⟩
        · rw [if_neg hc, List.getElem?_eq_none (by omega)]
      have hjl : j < ts.length := by omega
      have hm : ts[j]? = some ts[j] := List.getElem?_eq_getElem hjl
      have ht : t[j]? = some (t[j]'(by omega)) := List.getElem?_eq_getElem (by omega)
      obtain ⟨h1, h2⟩ := (h j _ hm).1 hj.1
      refine match_not hjl ?_
      rw [okAt_const hm ht h1, decide_eq_false_iff_not]
      intro e
      exact hj.2 (by rw [ht, h2, e])
theorem subB_long : ∀ {p : List Vl} {n : Nat} {F : List Rw}, n < p.length → subB n F p = none
  | [], _, _, h => absurd h (by simp)
  | _ :: _, 0, _, _ => rfl
  | v :: p, n + 1, F, h => by
    rw [subB_succ]
    split
    · rfl
    · exact subB_long (by simpa using h)
/-- The rows that begin with a beginning. -/
theorem pre_rows {columns : Int} {xs zs : List RR} {ts : List Tm} {p : List Vl} {F : List Rw} (hF : FitF columns xs F) (h : TermsI p ts) (hp : p.length ≤ ts.length) (hn : ts.length ≤ 4) (hc : (ts.length : Int) = columns) (hz : CanOf (xs.filter fun x => matchL ts x.t) zs) : rows zs = F.filter fun x => begins p x.1 :=
  can_ext _ _ hz.can (can_pick (fitF_can hF)) fun t k hk => by
    rw [hz.mom t k hk, mom_filter, mom_pick, fitF_mom hF hk, terms_match h hp hn, ← Bool.and_assoc, Bool.and_comm (begins p t)]
    have e : decide (t.length = ts.length) = decide ((t.length : Int) = columns) := by rw [decide_eq_decide]; omega
    rw [e]
section
variable {columns : Int} {xs : List RR} {t : Tr} {p : List Vl} (h0 : 0 ≤ columns) (h4 : columns ≤ 4) (hB : BuiltOf columns xs t)
include h0 h4 hB
theorem pre_sub {zs : List RR} {ts : List Tm} {o : Option Tr} (h : TermsI p ts) (hp : p.length ≤ ts.length) (hc : (ts.length : Int) = columns) (hz : CanOf (xs.filter fun x => matchL ts x.t) zs) (hs : SubI p t o) :
    (o = none → zs.length = 0) ∧ ∀ x, o = some x → rowsT (columns - p.length) x = (rows zs).map (cutW p.length) ∧ sameT 8 x x = true ∧ (p ≠ [] → 0 < zs.length) := by
  obtain ⟨F, hF, hg, rfl, -⟩ := built_fit h0 h4 hB
  have hr := pre_rows hF h hp (by omega) hc hz
  have ho := sub_is hg hs
  obtain ⟨h1, h2⟩ := subB_rows (p := p) hg (by omega)
  refine ⟨fun hn => ?_, fun x hx => ?_⟩
  · rw [hn] at ho
    have : subB columns.toNat F p = none := by
      cases e : subB columns.toNat F p with
      | none => rfl
      | some q => rw [e] at ho; cases ho
    rw [← rows_length, hr, h2 this]; rfl
  · rw [hx] at ho
    cases e : subB columns.toNat F p with
    | none => rw [e] at ho; cases ho
    | some q =>
      obtain ⟨m, F'⟩ := q
      rw [e] at ho
      obtain ⟨hm, hg', hF', hne⟩ := h1 m F' e
      have hx' : x = buildT m F' := Option.some.inj ho
      have hcm : columns - p.length = ((m : Nat) : Int) := by omega
      have hm' : (columns - (p.length : Int)).toNat = m := by omega
      refine ⟨?_, ?_, fun hpn => ?_⟩
      · rw [hx', hr, ← hF']
        have := rows_build (columns := columns - p.length) (F := F') (by omega) (by omega) (by rw [hm']; exact hg')
        rw [hm'] at this
        exact this
      · rw [hx']; exact sameT_refl hg' (by omega)
      · rw [← rows_length, hr]
        have := hne hpn
        rw [hF'] at this
        cases e : F.filter fun x => begins p x.1 with
        | nil => rw [e] at this; exact absurd rfl this
        | cons a l => simp
/-- Sub of a beginning is Sub of its parts. -/
theorem sub_parts {k : Nat} {o o1 o2 : Option Tr} {u : Tr} (hs : SubI p t o) (h1 : SubI (p.take k) t o1) (hu : ∀ x, o1 = some x → u = x) (h2 : SubI (p.drop k) u o2) : o = if o1.isSome then o2 else none := by
  obtain ⟨F, hF, hg, rfl, -⟩ := built_fit h0 h4 hB
  have e0 := sub_is hg hs
  have e1 := sub_is hg h1
  rw [← List.take_append_drop k p, subB_app] at e0
  cases e : subB columns.toNat F (p.take k) with
  | none =>
    rw [e] at e0 e1
    rw [e0, e1]; rfl
  | some q =>
    obtain ⟨m, F'⟩ := q
    rw [e] at e0 e1
    have hgd : Gd m F' := by
      by_cases hl : (p.take k).length ≤ columns.toNat
      · exact ((subB_rows (p := p.take k) hg hl).1 m F' e).2.1
      · exact absurd e (by rw [subB_long (by omega)]; simp)
    have hu' : u = buildT m F' := hu _ e1
    subst hu'
    have e2 := sub_is hgd h2
    rw [e0, e1, e2]; rfl
end
end Go.Proofs.YtdibijhaiaiifaaDoor
/- Parts of a tuple: what slicing gives; for the law TriePrefixes. -/
namespace Go.Proofs.YtdibijhaiaiifaaDoor
open Go.RowKit
/-- Where the part of a tuple from k on begins. -/
def cutP (a : Option Addr) (c k : Nat) : Option Addr := if c = k then a else a.map (·.add (k * 3))
theorem addr_add0 (a : Option Addr) : a.map (·.add 0) = a := by cases a <;> rfl
theorem vals_drop {w : World} {a : Option Addr} {n c k : Nat} {l : List Vl} (h : IsVals w (.slice a n c) l) (hk : k ≤ n) : IsVals w (.slice (cutP a c k) (n - k) (c - k)) (l.drop k) := by
  obtain ⟨a', c', e, hr, h1, h2, h3⟩ := id h
  injection e with e1 e2 e3
  subst e1 e3 e2
  have hl : (l.drop k).length = l.length - k := List.length_drop
  rcases hr with rfl | ⟨b, off, rfl, -⟩
  · exact ⟨_, _, by rw [hl], .inl (by simp), by simp, by simp, by omega⟩
  · unfold cutP
    by_cases hc : c = k
    · rw [if_pos hc]
      have hn : l.drop k = [] := List.drop_eq_nil_of_le (by omega)
      rw [hn]
      exact ⟨_, _, by rw [show l.length - k = 0 by omega]; rfl, .inl rfl, by simp, by simp, by omega⟩
    · rw [if_neg hc]
      have := IsRows.drop h hk
      have e : (some (⟨b, off, none⟩ : Addr)).map (·.add (k * 3)) = some ⟨b, off + k * 3, none⟩ := by
        show some (Addr.add _ _) = _
        unfold Addr.add
        split
        · rename_i h0; simp [h0]
        · rfl
      rw [e]
      exact this
theorem vals_take {w : World} {a : Option Addr} {n c k : Nat} {l : List Vl} (h : IsVals w (.slice a n c) l) (hk : k ≤ n) : IsVals w (.slice a k c) (l.take k) := by
  have hn : l.length = n := by obtain ⟨_, _, e, -⟩ := id h; injection e with _ e2 _; exact e2.symm
  exact IsRows.take h (by omega)
/-- A row without its first k values. -/
def cutR (k : Nat) (x : RR) : RR := ⟨cutP x.pa x.ca k, x.ca - k, x.t.drop k, x.pw, x.cw, x.s⟩
theorem cutR_rw (k : Nat) (x : RR) : (cutR k x).rw = cutW k x.rw := rfl
theorem cutR_ok {W : World} {x : RR} {k : Nat} (h : RowOk W x) (hk : k ≤ x.t.length) : RowOk W (cutR k x) := by
  refine ⟨?_, h.2⟩
  have := vals_drop (w := W) (a := x.pa) (n := x.t.length) (c := x.ca) (k := k) h.1 hk
  unfold cutR RR.av
  simp only [List.length_drop]
  exact this
theorem und25 : Tryd.prog.underlying 25 = some (.slice (Tryd.prog.elem 25)) := by kernel_rfl
theorem size58 (w : World) : (sizeOf (Tryd.prog.elem 25)).run Tryd.prog w = .ok 3 w := by kernel_rfl
theorem run_from {a : Option Addr} {n c k : Nat} (hk : k ≤ n) (w : World) : (Instr.sliceAt 25 (.slice a n c) (some (.int .i64 (k : Int))) none none).run Tryd.prog w = .ok (.slice (cutP a c k) (n - k) (c - k)) w := by
  rw [run_sliceAt_slice _ _ _ _ _ _ und25, run_slice_l w 25 a n c und25 .i64 k (by omega) (by omega), size58]
  simp only [Result.andThen_ok, sliced, Int.toNat_natCast, cutP]
theorem run_till {a : Option Addr} {n c k : Nat} (hk : k ≤ c) (w : World) : (Instr.sliceAt 25 (.slice a n c) none (some (.int .i64 (k : Int))) none).run Tryd.prog w = .ok (.slice a k c) w := by
  rw [run_sliceAt_slice _ _ _ _ _ _ und25, run_slice_h w 25 a n c und25 .i64 k (by omega) (by omega), size58]
  simp only [Result.andThen_ok, sliced, Int.toNat_natCast, Nat.sub_zero, Nat.zero_mul, addr_add0, ite_self]
theorem run_from' {a : Option Addr} {n c k : Nat} (hk : k ≤ n) (w : World) : (Instr.slice 25 (.slice a n c) (some (.int .i64 (k : Int))) none none).run Tryd.prog w = .ok (.slice (cutP a c k) (n - k) (c - k)) w := by
  rw [← run_sliceAt_slice _ _ _ _ _ _ und25, run_from hk]
theorem run_till' {a : Option Addr} {n c k : Nat} (hk : k ≤ c) (w : World) : (Instr.slice 25 (.slice a n c) none (some (.int .i64 (k : Int))) none).run Tryd.prog w = .ok (.slice a k c) w := by
  rw [← run_sliceAt_slice _ _ _ _ _ _ und25, run_till hk]
section
variable {columns : Int} {xs : List RR} {t : Tr} {p : List Vl} (h0 : 0 ≤ columns) (h4 : columns ≤ 4) (hB : BuiltOf columns xs t)
include h0 h4 hB
theorem pre_len {zs : List RR} {ts : List Tm} (h : TermsI p ts) (hp : p.length ≤ ts.length) (hc : (ts.length : Int) = columns) (hz : CanOf (xs.filter fun x => matchL ts x.t) zs) : ∀ z ∈ zs, z.t.length = ts.length := fun z hm => by
  obtain ⟨F, hF, hg, -, -⟩ := built_fit h0 h4 hB
  have hr := pre_rows hF h hp (by omega) hc hz
  have hz' : z.rw ∈ rows zs := List.mem_map.2 ⟨z, hm, rfl⟩
  rw [hr] at hz'
  have := hg.len _ (List.mem_filter.1 hz').1
  have e : z.rw.1 = z.t := rfl
  rw [e] at this
  omega
end
end Go.Proofs.YtdibijhaiaiifaaDoor
/- The plain facts of the law TrieMatchesReference. -/
namespace Go.Proofs.YtdibijhaiaiifaaDoor
theorem noTr_is : noTr.tr = buildT 0 [] := by unfold noTr TR.tr; rfl
theorem sub_long : ∀ (p : List Vl) (n : Nat) (F : List Rw), n < p.length → subB n F p = none
  | [], _, _, h => absurd h (by simp)
  | _ :: _, 0, _, _ => rfl
  | v :: p, n + 1, F, h => by
    rw [subB_succ]
    split
    · rfl
    · exact sub_long p n _ (by simpa using h)
section
variable {columns : Int} {xs : List RR} {t u : Tr} (sa : Sml 10000 xs) (hB : BuiltOf columns xs t)
include sa hB
/-- Both find the same below a beginning. -/
theorem ref_subs {p : List Vl} {x y : TR} {ok is : Bool} (h1 : SubI p t (if ok then some x.tr else none) ∧ (ok = false → x = noTr)) (h2 : SubI p t (if is then some y.tr else none) ∧ (is = false → y = noTr)) : ok = is ∧ sameT 8 x.tr y.tr = true := by
  obtain ⟨n, F, hn, hg, -, rfl⟩ := built_gd hB sa
  have e1 := sub_is hg h1.1
  have e2 := sub_is hg h2.1
  have e3 := e1.trans e2.symm
  cases ok <;> cases is
  · refine ⟨rfl, ?_⟩
    rw [h1.2 rfl, h2.2 rfl, noTr_is]
    exact sameT_refl (gd_nil 0) (by omega)
  · simp at e3
  · simp at e3
  · refine ⟨rfl, ?_⟩
    have e4 : x.tr = y.tr := by simpa using e3
    rw [← e4]
    cases e : subB n F p with
    | none => rw [e] at e1; simp at e1
    | some q =>
      obtain ⟨m, F'⟩ := q
      rw [e] at e1
      have hx : x.tr = buildT m F' := by simpa using e1
      by_cases hl : p.length ≤ n
      · obtain ⟨hm, hg', -, -⟩ := (subB_rows (p := p) hg hl).1 m F' e
        rw [hx]
        exact sameT_refl hg' (by omega)
      · rw [sub_long p n F (by omega)] at e
        cases e
theorem ref_same (h : BuiltOf columns xs u) : sameT 8 t u = true := by
  rw [built_eq h hB]
  obtain ⟨n, F, hn, hg, -, rfl⟩ := built_gd hB sa
  exact sameT_refl hg (by omega)
theorem ref_rows : (rowsT columns t).length ≤ 100000 := by
  by_cases hc : 0 ≤ columns ∧ columns ≤ 4
  · obtain ⟨F, h1, -, -, h3⟩ := built_fit hc.1 hc.2 hB
    rw [h3]
    exact Nat.le_trans (fitF_len h1 sa) (by decide)
  · unfold rowsT validC
    rw [if_neg hc]
    simp
end
end Go.Proofs.YtdibijhaiaiifaaDoor
