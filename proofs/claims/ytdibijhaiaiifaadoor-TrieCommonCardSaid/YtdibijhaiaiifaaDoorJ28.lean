/- Parts Zj, Zk: words, walks and laws that the claims of this seat share. -/
import Derived.Test.YtdibijhaiaiifaaDoorJ27
/- The walk of the reference's Build; what both Builds give. -/
namespace Go.Proofs.YtdibijhaiaiifaaDoor
open Go.RowKit
/-! ### what is built -/
/-- The canonical rows of so many values. -/
def FitF (columns : Int) (xs : List RR) (F : List Rw) : Prop := ∃ zs, CanOf xs zs ∧ F = (rows zs).filter fun x => decide ((x.1.length : Int) = columns)
def BuiltOf (columns : Int) (xs : List RR) (t : Tr) : Prop := if 0 ≤ columns ∧ columns ≤ 4 then ∃ F, FitF columns xs F ∧ t = buildT columns.toNat F else t = emptyT
theorem canOf_eq {xs zs zs' : List RR} (h : CanOf xs zs) (h' : CanOf xs zs') : rows zs = rows zs' := can_ext _ _ h.can h'.can fun t k hk => by rw [h.mom t k hk, h'.mom t k hk]
theorem canOf_op {xs zs : List RR} (h : OpOf opU xs [] zs) : CanOf xs zs := ⟨h.can, fun t k hk => by
  rw [h.mom t k hk]
  show (mom (rows xs) t k || mom [] t k) = _
  rw [mom_nil, Bool.or_false], fun n hn => h.sml n 0 hn (Sml.nil _)⟩
theorem built_of {columns : Int} {xs : List RR} {t : Tr} (h : BuildOf columns xs t) : BuiltOf columns xs t := by
  unfold BuildOf at h
  unfold BuiltOf
  split
  · rename_i hc
    rw [if_pos hc] at h
    obtain ⟨ns, h1, h2⟩ := h
    exact ⟨_, ⟨ns, canOf_op h1, rfl⟩, h2⟩
  · rename_i hc
    rwa [if_neg hc] at h
theorem fitF_eq {columns : Int} {xs : List RR} {F F' : List Rw} (h : FitF columns xs F) (h' : FitF columns xs F') : F = F' := by
  obtain ⟨zs, h1, rfl⟩ := h
  obtain ⟨zs', h2, rfl⟩ := h'
  rw [canOf_eq h1 h2]
theorem built_eq {columns : Int} {xs : List RR} {t t' : Tr} (h : BuiltOf columns xs t) (h' : BuiltOf columns xs t') : t = t' := by
  unfold BuiltOf at h h'
  split at h
  · rename_i hc
    rw [if_pos hc] at h'
    obtain ⟨F, h1, rfl⟩ := h
    obtain ⟨F', h2, rfl⟩ := h'
    rw [fitF_eq h1 h2]
  · rename_i hc
    rw [if_neg hc] at h'
    rw [h, h']
theorem upW_filter {P : Rw → Bool} : ∀ {F : List Rw}, Up F → Up (F.filter P)
  | [], _ => trivial
  | x :: F, h => by
    rw [List.filter_cons]
    split
    · exact ⟨fun y hy => h.1 y (List.mem_filter.1 hy).1, upW_filter h.2⟩
    · exact upW_filter h.2
theorem fitF_gd {columns : Int} {xs : List RR} {F : List Rw} (h : FitF columns xs F) (h0 : 0 ≤ columns) : Gd columns.toNat F := by
  obtain ⟨zs, h1, rfl⟩ := h
  refine ⟨upW_filter h1.can.1, fun x hx => h1.can.2 x (List.mem_filter.1 hx).1, fun x hx => ?_⟩
  have := (List.mem_filter.1 hx).2
  rw [decide_eq_true_iff] at this
  omega
theorem fitF_len {columns : Int} {xs : List RR} {F : List Rw} (h : FitF columns xs F) {n : Nat} (sa : Sml n xs) : F.length ≤ n := by
  obtain ⟨zs, h1, rfl⟩ := h
  refine Nat.le_trans (List.length_filter_le _ _) ?_
  rw [rows_length]
  exact (h1.sml _ sa).len
/-- Every built trie is that of some sorted rows. -/
theorem built_gd {columns : Int} {xs : List RR} {t : Tr} (h : BuiltOf columns xs t) (sa : Sml 10000 xs) : ∃ n F, n ≤ 4 ∧ Gd n F ∧ F.length ≤ 10000 ∧ t = buildT n F := by
  unfold BuiltOf at h
  split at h
  · rename_i hc
    obtain ⟨F, h1, rfl⟩ := h
    exact ⟨columns.toNat, F, by omega, fitF_gd h1 hc.1, fitF_len h1 sa, rfl⟩
  · exact ⟨0, [], by omega, gd_nil 0, by simp, by rw [h]; rfl⟩
/-! ### rows that do not lie in a box of empty slices -/
theorem rowsAt_apart {α : Type} {k : Nat} {enc : α → List Value} {w W : World} {a : Option Addr} {l : List α} {b : Nat} (h : RowsAt k enc w a l) (hb : ∀ o v, w.cell? ⟨b, o, none⟩ = some v → v = .slice none 0 0) (hl : ∀ x ∈ l, ∃ (j : Nat) (u : Value), (enc x)[j]? = some u ∧ u ≠ .slice none 0 0) (hA : Agree (fun k => k = b) w W) : RowsAt k enc W a l := by
  rcases h with h | ⟨b', off, rfl, h⟩
  · exact .inl h
  · cases l with
    | nil => exact .inl rfl
    | cons x l =>
      have hne : b' ≠ b := by
        rintro rfl
        obtain ⟨j, u, hu, hne⟩ := hl x (List.mem_cons_self ..)
        exact hne (hb _ _ (h 0 x rfl j u hu))
      exact .inr ⟨b', off, rfl, fun i y hy j u hu => hA.cell (h i y hy j u hu) hne⟩
theorem IsRows.apart {α : Type} {k : Nat} {enc : α → List Value} {w W : World} {v : Value} {l : List α} {b : Nat} (h : IsRows k enc w v l) (hb : ∀ o v, w.cell? ⟨b, o, none⟩ = some v → v = .slice none 0 0) (hl : ∀ x ∈ l, ∃ (j : Nat) (u : Value), (enc x)[j]? = some u ∧ u ≠ .slice none 0 0) (hA : Agree (fun k => k = b) w W) : IsRows k enc W v l := by
  obtain ⟨a, c, e, hr, hm⟩ := h
  exact ⟨a, c, e, rowsAt_apart hr hb hl hA, hm⟩
theorem IsRel.apart {w W : World} {v : Value} {ys : List RR} {b : Nat} (h : IsRel w v ys) (hb : ∀ o v, w.cell? ⟨b, o, none⟩ = some v → v = .slice none 0 0) (hy : ∀ y ∈ ys, y.s ≠ []) (hA : Agree (fun k => k = b) w W) : IsRel W v ys := by
  refine ⟨IsRows.apart h.1 hb (fun y hy' => ⟨1, y.wv, rfl, fun e => ?_⟩) hA, fun y hy' => ⟨IsRows.apart (h.2 y hy').1 hb (fun z _ => ⟨0, _, rfl, by simp⟩) hA, IsSpans.of_rows (IsRows.apart (h.2 y hy').2.rows hb (fun z _ => ⟨0, _, rfl, by simp⟩) hA)⟩⟩
  injection e with e1 e2 e3
  exact hy y hy' (List.eq_nil_of_length_eq_zero e2)
theorem cel_nil {w : World} {b : Nat} (h : Cel w b 64 nil3) : ∀ o v, w.cell? ⟨b, o, none⟩ = some v → v = .slice none 0 0 := fun o v hv => by
  match o with
  | 0 => rw [h.at_ (j := 0) rfl] at hv; injection hv with hv; exact hv.symm
  | 1 => rw [h.at_ (j := 1) rfl] at hv; injection hv with hv; exact hv.symm
  | 2 => rw [h.at_ (j := 2) rfl] at hv; injection hv with hv; exact hv.symm
  | o + 3 =>
    exfalso
    have h' : w.heap[b]? = some (.cells nil3.toArray 64 (0, 0)) := h
    unfold World.cell? at hv
    simp [h'] at hv
set_option maxHeartbeats 4000000 in
set_option maxRecDepth 1000000 in
theorem rBuild_any (va : Value) (columns : Int) (xs : List RR) (w : World) (ha : IsRel w va xs) (sa : Sml 10000 xs) :
    Calls Tryd.prog 53 #[.int .i64 columns, va] w fun e w' => ∃ t : TR, e = .returned (trV t) ∧ TrOk w' t ∧ Hid (BuiltOf columns xs t.tr) ∧ Below w.heap.size w w' := by
  have SA := Lib.hid sa
  clear sa
  obtain ⟨pa, ca, rfl, -⟩ := ha.shape
  have X4 := Cel.new w 64 nil3
  have B1 := below_new w (.cells #[.slice none 0 0, .slice none 0 0, .slice none 0 0] 64)
  obtain ⟨w1, hw1⟩ : ∃ z, w.alloc (.cells #[.slice none 0 0, .slice none 0 0, .slice none 0 0] 64) = z := ⟨_, rfl⟩
  have X4 : Cel w1 w.heap.size 64 nil3 := by rw [← hw1]; exact X4
  rw [hw1] at B1
  go_enter Tryd.func53, Tryd.ntmps53
  go_upto_region 1 with fail
  clear hw1
  obtain ⟨b4, hb4e⟩ : ∃ b, w.heap.size = b := ⟨_, rfl⟩
  rw [hb4e] at X4
  rw [hb4e]
  have h4w : w.heap.size ≤ b4 := by omega
  have hb4l : b4 < w1.heap.size := X4.lt
  clear hb4e
  replace ha := ha.keep B1
  have x0 := X4.at_ (j := 0) rfl
  have x1 := X4.at_ (j := 1) rfl
  have x2 := X4.at_ (j := 2) rfl
  have f0 := X4.free 0
  have f1 := X4.free 1
  have f2 := X4.free 2
  by_cases hc : 0 ≤ columns ∧ columns ≤ 4
  · obtain ⟨hc0, hc4⟩ := hc
    have hd1 : ¬ columns < 0 := by omega
    have hd2 : ¬ 4 < columns := by omega
    go_wp2_with fail
    refine (Fitting_any _ columns xs _ ha SA.out).mono ?_
    rintro e w2 ⟨p, c, ys, zs, rfl, HY, HC, HF, B2⟩
    have HCC := Lib.hid HC
    have hyl : ys.length ≤ 10000 := by
      rw [← rows_length, HF.out]
      exact Nat.le_trans (List.length_filter_le _ _) (by rw [rows_length]; exact (HC.sml _ SA.out).len)
    have HFF := Lib.hid (show FitF columns xs (rows ys) from ⟨zs, HC, HF.out⟩)
    have hys : ∀ y ∈ ys, y.s ≠ [] := fun y hy => by
      have : y.rw ∈ rows ys := List.mem_map_of_mem hy
      rw [HF.out] at this
      exact (HC.can.2 _ (List.mem_filter.1 this).1).1
    replace X4 := X4.keep B2
    have HX : ∀ W, Agree (fun k => k = b4) w2 W → IsRel W (.slice p ys.length c) ys := fun W hW => HY.apart (cel_nil X4) hys hW
    obtain ⟨n, rfl⟩ : ∃ n : Nat, columns = n := ⟨columns.toNat, by omega⟩
    have hB := rbuild_all n (by omega) (fun k => k = b4) p c ys w2 (fun k h => by rw [h]; exact X4.lt) HX (by have := fitF_gd HFF.out hc0; rwa [Int.toNat_natCast] at this) (by omega)
    have BW := below_trans B1 B2
    clear HC hys HY HX x0 x1 x2 f0 f1 f2
    go_wp2_with fail
    refine hB.mono ?_
    clear hB
    rintro e w4 ⟨t, rfl, hT4, HT4, B4⟩
    have HT5 := Lib.hid hT4
    clear hT4
    unfold trV
    have X5 := X4.keep B4
    have x0 := X5.at_ (j := 0) rfl
    have x1 := X5.at_ (j := 1) rfl
    have x2 := X5.at_ (j := 2) rfl
    have f0 := X5.free 0
    have f1 := X5.free 1
    have f2 := X5.free 2
    have Z := ((X5.set 0 t.vv).set 1 t.kv).set 2 t.wv
    have z0 := Z.at_ (j := 0) rfl
    have z1 := Z.at_ (j := 1) rfl
    have z2 := Z.at_ (j := 2) rfl
    have BZ := ((((BW.trans (B4.mono BW.size)).setCell (p := ⟨b4, 0, none⟩) h4w t.vv).setCell (p := ⟨b4, 1, none⟩) h4w t.kv).setCell (p := ⟨b4, 2, none⟩) h4w t.wv)
    have r0 : (fun k => k = b4) b4 := rfl
    have AZ := ((((Agree.refl (fun k => k = b4) w4).set (p := ⟨b4, 0, none⟩) (v := t.vv) r0).set (p := ⟨b4, 1, none⟩) (v := t.kv) r0).set (p := ⟨b4, 2, none⟩) (v := t.wv) r0)
    obtain ⟨wZ, hwZ⟩ : ∃ z, ((w4.setCell ⟨b4, 0, none⟩ t.vv).setCell ⟨b4, 1, none⟩ t.kv).setCell ⟨b4, 2, none⟩ t.wv = z := ⟨_, rfl⟩
    rw [hwZ] at z0 z1 z2 BZ AZ
    clear Z r0
    go_wp2
    try rw [hwZ]
    refine bodyPost_ret (v := .agg #[t.vv, t.kv, t.wv]) (by simp [results, Tryd.results53, go_sem, z0, z1, z2]) rfl ?_
    refine ⟨t, rfl, HT5.out wZ AZ, Lib.hid ?_, BZ⟩
    unfold BuiltOf
    rw [if_pos ⟨by omega, by omega⟩]
    exact ⟨_, HFF.out, by rw [HT4.out, Int.toNat_natCast]⟩
  · have HC := Lib.hid hc
    have Z := ((X4.set 0 (.slice none 0 0)).set 1 (.slice none 0 0)).set 2 (.slice none 0 0)
    have z0 := Z.at_ (j := 0) rfl
    have z1 := Z.at_ (j := 1) rfl
    have z2 := Z.at_ (j := 2) rfl
    have BZ := (((B1.setCell (p := ⟨b4, 0, none⟩) h4w (.slice none 0 0)).setCell (p := ⟨b4, 1, none⟩) h4w (.slice none 0 0)).setCell (p := ⟨b4, 2, none⟩) h4w (.slice none 0 0))
    obtain ⟨wZ, hwZ⟩ : ∃ z, ((w1.setCell ⟨b4, 0, none⟩ (.slice none 0 0)).setCell ⟨b4, 1, none⟩ (.slice none 0 0)).setCell ⟨b4, 2, none⟩ (.slice none 0 0) = z := ⟨_, rfl⟩
    rw [hwZ] at z0 z1 z2 BZ
    clear Z
    have fin : ∃ t : TR, Ending.returned (.agg #[.slice none 0 0, .slice none 0 0, .slice none 0 0]) = .returned (trV t) ∧ TrOk wZ t ∧ Hid (BuiltOf columns xs t.tr) ∧ Below w.heap.size w wZ := ⟨noTr, rfl, noTr_ok _, Lib.hid (by unfold BuiltOf; rw [if_neg HC.out]; rfl), BZ⟩
    by_cases hd1 : columns < 0
    · clear hc
      go_wp2
      try rw [hwZ]
      exact bodyPost_ret (v := .agg #[.slice none 0 0, .slice none 0 0, .slice none 0 0]) (by simp [results, Tryd.results53, go_sem, z0, z1, z2]) rfl fin
    · have hd2 : 4 < columns := by omega
      clear hc
      go_wp2
      try rw [hwZ]
      exact bodyPost_ret (v := .agg #[.slice none 0 0, .slice none 0 0, .slice none 0 0]) (by simp [results, Tryd.results53, go_sem, z0, z1, z2]) rfl fin
theorem TBuild_any (va : Value) (columns : Int) (xs : List RR) (w : World) (hT : Tab w) (ha : IsRel w va xs) (sa : Sml 10000 xs) :
    Calls Tryd.prog 57 #[.int .i64 columns, va] w fun e w' => ∃ t : TR, e = .returned (trV t) ∧ TrOk w' t ∧ Hid (BuiltOf columns xs t.tr) ∧ Below w.heap.size w w' :=
  (Build_any va columns xs w hT ha sa).mono fun _ _ ⟨t, h1, h2, h3, h4⟩ => ⟨t, h1, h2, Lib.hid (built_of h3.out), h4⟩
end Go.Proofs.YtdibijhaiaiifaaDoor
/- The walk of the reference's Common. -/
namespace Go.Proofs.YtdibijhaiaiifaaDoor
open Go.RowKit
/-- The values that are first values of all tries. -/
def allIn (ts : List Tr) (v : Vl) : Bool := ts.all fun u => decide (v ∈ u.vs)
def commonL : List Tr → List Vl
  | [] => []
  | t :: ts => t.vs.filter (allIn (t :: ts))
theorem IsTries.shape {w : World} {v : Value} {l : List TR} (h : IsTries w v l) : ∃ a c, v = .slice a l.length c ∧ l.length ≤ 9223372036854775807 := by
  obtain ⟨a, c, e, -, hm, -⟩ := h.1
  exact ⟨a, c, e, hm⟩
theorem Owns.empty {α : Type} {k : Nat} {e : TypeId} {enc : α → List Value} (w : World) : ∃ w1 p, w.alloc (.cells #[] e) = w1 ∧ some ⟨w.heap.size, 0, none⟩ = p ∧ Below w.heap.size w w1 ∧ Owns k e enc w1 w.heap.size (.slice p 0 0) [] := ⟨_, _, rfl, rfl, below_new _ _, Owns.lit w⟩
def ComRet (ts : List Tr) (w : World) (e : Ending) (w' : World) : Prop := ∃ u L, e = .returned u ∧ IsVals w' u L ∧ Hid (L = commonL ts) ∧ Below w.heap.size w w'
set_option maxHeartbeats 4000000 in
set_option maxRecDepth 1000000 in
theorem rCommon_any (va : Value) (ts : List TR) (w : World) (ht : IsTries w va ts) (hl : ∀ t ∈ ts, t.vs.length ≤ 100000) (hn : ts.length ≤ 1000) :
    Calls Tryd.prog 66 #[va] w (ComRet (ts.map TR.tr) w) := by
  obtain ⟨pa, ca, rfl, -⟩ := ht.shape
  go_enter Tryd.func66, Tryd.ntmps66
  go_upto_region 2 with fail
  obtain ⟨w1, pz, hw1, hpz, B1, HO⟩ := Owns.empty (k := 3) (e := 58) (enc := encVl) w
  rw [hw1, hpz]
  clear hw1 hpz
  cases ts with
  | nil =>
    have HI := HO.is encsV (by simp)
    go_wp2
    go_ret
    exact ⟨_, [], rfl, HI, Lib.hid rfl, B1⟩
  | cons t ts =>
    obtain ⟨n, hnn⟩ : ∃ n, (t :: ts).length = n := ⟨_, rfl⟩
    have hn0 : 0 < n := by rw [← hnn]; simp
    have hnz : (0 : Int) < (n : Int) := by omega
    have hnb : ((n : Int) == 0) = false := by rw [beq_eq_false_iff_ne]; omega
    have ht0 := ht.2 t (List.mem_cons_self ..)
    have hl0 := hl t (List.mem_cons_self ..)
    obtain ⟨bl, ol, e, c0, -, -, -⟩ := ht.at_ (i := 0) (x := t) rfl
    cases e
    rw [Nat.zero_mul, Nat.add_zero] at c0
    rw [hnn] at ht hn
    rw [hnn]
    have HNN := Lib.hid hnn
    clear hl hnn
    unfold TR.vv at c0
    obtain ⟨nv, hnv⟩ : ∃ n, t.vs.length = n := ⟨_, rfl⟩
    rw [hnv] at c0 hl0
    have HNV := Lib.hid hnv
    have HTV := Lib.hid (show ∀ W, Below w.heap.size w W → IsVals W (.slice t.pv nv t.cv) t.vs from fun W hW => by rw [← hnv]; exact (ht0.keep hW).vals)
    have c0' := cell_keep B1 c0
    clear hnv ht0
    go_wp2
    clear c0'
    go_loopg [3, 4] nv (fun g v3 vi wr => ∃ (i : Nat) (L : List Vl), vi = .int .i64 i ∧ i ≤ nv ∧ nv - i ≤ g ∧ Owns 3 58 encVl wr w.heap.size v3 L ∧ Hid (L = (t.vs.take i).filter (allIn ((t :: ts).map TR.tr))) ∧ Below w.heap.size w wr)
    case atStart => exact ⟨0, [], rfl, Nat.zero_le _, Nat.le_refl _, HO, Lib.hid rfl, B1⟩
    case round =>
      obtain ⟨i, L, rfl, hi, hg, H, V, B⟩ := hrel
      clear HO B1
      obtain ⟨p3, c3, rfl⟩ := H.form
      have hLl : L.length ≤ 100000 := by
        rw [V.out]; exact Nat.le_trans (List.length_filter_le _ _) (by rw [List.length_take]; omega)
      have c0' := cell_keep B c0
      by_cases hlt : i < nv
      · have hltz : (i : Int) < (nv : Int) := by omega
        obtain ⟨y, hy⟩ := getV (l := t.vs) (i := i) (by have := HNV.out; omega)
        have VN := Lib.hid (show ∀ q, allIn ((t :: ts).map TR.tr) y = q → (t.vs.take (i + 1)).filter (allIn ((t :: ts).map TR.tr)) = L ++ (if q then [y] else []) from fun q hq => by
          rw [take_succ' hy, List.filter_append, V.out, List.filter_cons, hq]
          cases q <;> rfl)
        have HY := Lib.hid hy
        clear hy
        go_wp2
        clear c0'
        go_loopg [5, 6] n (fun g v5 vk wr => ∃ (k : Nat), vk = .int .i64 k ∧ v5 = .bool (allIn (((t :: ts).take k).map TR.tr) y) ∧ k ≤ n ∧ n - k ≤ g ∧ Owns 3 58 encVl wr w.heap.size (.slice p3 L.length c3) L ∧ Below w.heap.size w wr)
        case atStart => exact ⟨0, rfl, rfl, Nat.zero_le _, Nat.le_refl _, H, B⟩
        case round =>
          obtain ⟨k, rfl, rfl, hk, hgk, Hk, Bk⟩ := hrel
          clear H B
          by_cases hlk : k < n
          · have hlkz : (k : Int) < (n : Int) := by omega
            obtain ⟨u, hu⟩ := getElem_of_lt (l := t :: ts) (i := k) (by rw [HNN.out]; exact hlk)
            have VS := Lib.hid (show allIn (((t :: ts).take (k + 1)).map TR.tr) y = (allIn (((t :: ts).take k).map TR.tr) y && decide (y ∈ u.vs)) by
              unfold allIn
              rw [take_succ' hu, List.map_append, List.all_append]
              simp [TR.tr_vs])
            obtain ⟨q, hq⟩ : ∃ q, allIn (((t :: ts).take k).map TR.tr) y = q := ⟨_, rfl⟩
            rw [hq] at VS ⊢
            clear hq
            cases q with
            | false =>
              rw [Bool.false_and] at VS
              go_upto_region 11 with fail
              refine wp_region_aftB (by kernel_rfl) (by kernel_rfl) ?_
              repeat (go_big_quiet_step (fail))
              refine wpQuiet_nil ?_
              intro w6 B6
              have H6 := Hk.keep B6
              have BB := below_trans Bk B6
              clear Hk Bk
              go_wp2
              go_roundg (n - (k + 1))
              case measure => omega
              case rel => exact ⟨k + 1, by go_num, by rw [VS.out], hlk, Nat.le_refl _, H6, BB⟩
            | true =>
              obtain ⟨r, hr⟩ : ∃ r, decide (y ∈ u.vs) = r := ⟨_, rfl⟩
              rw [hr, Bool.true_and] at VS
              obtain ⟨b1, o1, ee, k0, k1, k2, hut⟩ := (ht.keep Bk).at_ hu
              cases ee
              have hI : ∀ p : AftB wr, Calls Tryd.prog 114 #[.agg #[u.vv, u.kv, u.wv], .agg #[.int .i64 y.t, .int .i64 y.n, .string ⟨y.s.toArray⟩]] p.w' fun e w'' => e = .returned (.bool r) ∧ ∃ q : AftB wr, w'' = q.w' := fun p => AftB.call (by
                have h := In_any u y p.w' (hut.keep p.ok)
                rw [hr] at h
                exact h)
              obtain ⟨bv, ov, ev, d0, d1, d2⟩ := vals_at' (HTV.out wr Bk) HY.out
              have c0' := cell_keep Bk c0
              rw [ev] at c0'
              unfold strV at d2
              have a_k0 := AftB.cell k0
              have a_k1 := AftB.cell k1
              have a_k2 := AftB.cell k2
              have a_d0 := AftB.cell d0
              have a_d1 := AftB.cell d1
              have a_d2 := AftB.cell d2
              have a_c0 := AftB.cell c0'
              clear hu hut hr k0 k1 k2 d0 d1 d2
              go_upto_region 11 with fail
              refine wp_region_aftB (by kernel_rfl) (by kernel_rfl) ?_
              repeat (go_big_quiet_step ((exact hI _)))
              refine wpQuiet_nil ?_
              intro w6 B6
              have H6 := Hk.keep B6
              have BB := below_trans Bk B6
              clear Hk Bk a_k0 a_k1 a_k2 a_d0 a_d1 a_d2 a_c0 hI c0'
              go_wp2
              try rw [← ev]
              go_roundg (n - (k + 1))
              case measure => omega
              case rel => exact ⟨k + 1, by go_num, by rw [VS.out], hlk, Nat.le_refl _, H6, BB⟩
          · have hlkz : ¬ (k : Int) < (n : Int) := by omega
            obtain ⟨q, hq⟩ : ∃ q, allIn ((t :: ts).map TR.tr) y = q := ⟨_, rfl⟩
            rw [List.take_of_length_le (by rw [HNN.out]; omega), hq]
            have V2 := Lib.hid (VN.out q hq)
            clear hq
            cases q with
            | false =>
              go_wp2
              go_roundg (nv - (i + 1))
              case measure => omega
              case rel => exact ⟨i + 1, L, by go_num, hlt, Nat.le_refl _, Hk, by have := V2.out; simp only [Bool.false_eq_true, if_false, List.append_nil] at this; exact Lib.hid this.symm, Bk⟩
            | true =>
              have V3 := Lib.hid (show L ++ [y] = (t.vs.take (i + 1)).filter (allIn ((t :: ts).map TR.tr)) from V2.out.symm)
              obtain ⟨bv, ov, ev, d0, d1, d2⟩ := vals_at' (HTV.out wr Bk) HY.out
              have c0' := cell_keep Bk c0
              rw [ev] at c0'
              unfold strV at d2
              have bX := below_new wr (.cells #[.int .i64 y.t, .int .i64 y.n, .string ⟨y.s.toArray⟩] 58)
              have hmr : IsRows 3 encVl (wr.alloc (.cells #[.int .i64 y.t, .int .i64 y.n, .string ⟨y.s.toArray⟩] 58)) (.slice (some ⟨wr.heap.size, 0, none⟩) 1 1) [y] := IsRows.lit wr [y] encsV (by simp)
              go_wp2_with (at_builtin; refine wpList_own fitsV encsV rfl _ _ rfl rfl rfl Hk bX hmr Bk.size (by omega) (by simp) ?_; intro p9 c9 w9 H9 B9 hG9 hU9; rw [show (L ++ [y]).length = L.length + 1 from by simp] at H9; rw [show (L ++ [y]).length = L.length + 1 from by simp])
              have B10 := Bk.trans B9
              clear Hk bX hmr hG9 hU9 B9 d0 d1 d2 c0'
              try rw [← ev]
              go_roundg (nv - (i + 1))
              case measure => omega
              case rel => exact ⟨i + 1, L ++ [y], by go_num, hlt, Nat.le_refl _, H9, V3, B10⟩
      · have hltz : ¬ (i : Int) < (nv : Int) := by omega
        have RES := Lib.hid (show L = commonL ((t :: ts).map TR.tr) by
          rw [V.out, List.take_of_length_le (by have := HNV.out; omega)]
          show _ = t.tr.vs.filter (allIn ((t :: ts).map TR.tr))
          rw [TR.tr_vs])
        have HI := H.is encsV (by omega)
        go_wp2
        go_ret
        exact ⟨_, L, rfl, HI, RES, B⟩
end Go.Proofs.YtdibijhaiaiifaaDoor
