/- The law LatticeFunctions. -/
import Derived.Test.YtkjlflmcojmfgaaDoorFun
import Derived.Test.YtkjlflmcojmfgaaDoorL7
import Derived.Test.YtkjlflmcojmfgaaDoorTwo
namespace Go.Proofs.YtkjlflmcojmfgaaDoor
open Go.RowKit
def comTo (f q : List Nat) (k : Nat) : List Nat := (List.range k).map fun a => q.getD (f.getD a 0) 0
theorem comTo_succ (f q : List Nat) (k : Nat) : comTo f q (k + 1) = comTo f q k ++ [q.getD (f.getD k 0) 0] := by simp [comTo, List.range_succ]
theorem comTo_len (f q : List Nat) (k : Nat) : (comTo f q k).length = k := by simp [comTo]
theorem comTo_getD {f q : List Nat} {k a : Nat} (h : a < k) : (comTo f q k).getD a 0 = q.getD (f.getD a 0) 0 := by
  unfold comTo
  rw [List.getD_eq_getElem?_getD, List.getElem?_map, List.getElem?_range h]
  rfl
theorem com_mono {n : Nat} {o : Rl2} (hlt : ∀ {a b}, o a b = true → a < n ∧ b < n) {f q : List Nat} (hf : Mono o fun a => f.getD a 0) (hq : Mono o fun a => q.getD a 0) : Mono o fun a => (comTo f q n).getD a 0 := by
  intro a b hab
  obtain ⟨ha, hb⟩ := hlt hab
  show o ((comTo f q n).getD a 0) ((comTo f q n).getD b 0) = true
  rw [comTo_getD ha, comTo_getD hb]
  exact hq _ _ (hf _ _ hab)
theorem com_lt {n : Nat} {f q : List Nat} (hf : ∀ x ∈ f, x < n) (hfl : n ≤ f.length) (hq : ∀ x ∈ q, x < n) (hql : n ≤ q.length) : ∀ x ∈ comTo f q n, x < n := fun x hx => by
  obtain ⟨a, ha, rfl⟩ := List.mem_map.1 hx
  have ha := List.mem_range.1 ha
  have h1 : f.getD a 0 < n := by rw [getD_of (by omega)]; exact hf _ (List.getElem_mem _)
  rw [getD_of (by omega)]
  exact hq _ (List.getElem_mem _)
theorem monoL_at {L : Ltc} (hck : checkL L = 0) {l : List Nat} (hl : l.length = L.elems.length) (hlt : ∀ x ∈ l, x < L.elems.length) : monoL L (castI l) = monoT L.elems.length (ordL L) (castI l) := by
  unfold monoL
  rw [decide_eq_true hck, decide_eq_true (show (castI l).length = L.elems.length by rw [castI_length, hl]), show inAll L.elems.length (castI l) = true from inAll_of hlt]
  rfl
theorem monoL_of {L : Ltc} (hck : checkL L = 0) (hlat : Lat L.elems.length (ordL L)) {l : List Nat} (hl : l.length = L.elems.length) (hlt : ∀ x ∈ l, x < L.elems.length) (hm : Mono (ordL L) fun a => l.getD a 0) : monoL L (castI l) = true := by
  rw [monoL_at hck hl hlt, monoT_iff hlat.lt]; exact hm
theorem monoL_closed {L : Ltc} (hck : checkL L = 0) (hlat : Lat L.elems.length (ordL L)) {t f : List Nat} (hl : t.length = L.elems.length) (hfl : f.length = L.elems.length) (hlt : ∀ x ∈ t, x < L.elems.length) (hc : IsClosed L.elems.length (ordL L) (fun a => t.getD a 0) (fun a => f.getD a 0)) : monoL L (castI t) = decide (castI t = castI f) := by
  rw [monoL_at hck hl hlt, Bool.eq_iff_iff, monoT_iff hlat.lt, decide_eq_true_iff, castI_inj, hlat.mono_closed hc fun a ha => by
    show t.getD a 0 < _
    rw [getD_of (by omega)]; exact hlt _ (List.getElem_mem _)]
  constructor
  · intro e
    refine List.ext_getElem (by omega) fun a h1 h2 => ?_
    have := e a (by omega)
    rwa [getD_of h1, getD_of h2] at this
  · rintro rfl a ha; rfl
theorem castI_get {l : List Nat} {k : Nat} (h : k < l.length) : (castI l)[k]? = some ((l.getD k 0 : Nat) : Int) := by
  unfold castI
  rw [List.getElem?_map, List.getElem?_eq_getElem h, getD_of h]; rfl
theorem table_ts {v : Value} {L : Ltc} {yv : Value} {y : List UInt8} {t : List Nat} {w : World} {Q : Ending → World → Prop} (h : IsLtc w v L) (hy : IsBytes w yv y) (hn : L.elems.length ≤ 8) (ht : Hid (tabTo L.elems.length y L.elems.length = t)) (k : ∀ a c w', IsInts w' (.slice a (castI t).length c) (castI t) → Below w.heap.size w w' → Q (.returned (.slice a (castI t).length c)) w') : Calls Tryd.prog 27 #[v, yv] w Q :=
  (table_any v L yv y w h hy hn).mono fun e w' ⟨a, c, he, hi, hb⟩ => by subst he; rw [ht.out] at hi ⊢; exact k a c w' hi hb
theorem closed_ts {v : Value} {L : Ltc} {fv : Value} {t f : List Nat} {w : World} {Q : Ending → World → Prop} (h : IsLtc w v L ∧ KeysAt w 0) (hf : IsInts w fv (castI t)) (HCK : Hid (checkL L = 0)) (htl : t.length ≤ L.elems.length) (htl2 : L.elems.length ≤ t.length) (HTN : Hid (∀ x ∈ t, x < L.elems.length)) (hF : Hid (cloTo L.elems.length (ordL L) t L.elems.length = f)) (k : ∀ a c w', IsInts w' (.slice a (castI f).length c) (castI f) → Below w.heap.size w w' → Q (.returned (.slice a (castI f).length c)) w') : Calls Tryd.prog 28 #[v, fv] w Q :=
  (closedT_any v L fv t w h.1 hf h.2 HCK htl htl2 HTN).mono fun e w' ⟨a, c, he, hi, hb⟩ => by subst he; rw [hF.out] at hi ⊢; exact k a c w' hi hb
set_option maxHeartbeats 16000000 in
set_option maxRecDepth 100000 in
theorem law8_any (v : Value) (L : Ltc) (va : Value) (ra : List UInt8) (vb : Value) (rb : List UInt8) (w : World) (h : IsLtc w v L) (ha : IsBytes w va ra) (hb : IsBytes w vb rb) (hK : KeysAt w 0) : Calls Tryd.prog 8 #[v, va, vb] w fun e w' => e = .returned (.bool true) ∧ Below w.heap.size w w' := by
  have ha0 := ha
  have hb0 := hb
  obtain ⟨aa, ac, rfl, n1, n2, n3⟩ := IsRows.shape ha
  obtain ⟨ba, bc, rfl, k1, k2, k3⟩ := IsRows.shape hb
  have h0 := h
  obtain ⟨ea, ec, ca, cc, rfl, -, -, m1, m2, m3⟩ := h.shape
  have g0 := heap_alloc_new w (.cells #[.string L.name.1, .slice ea L.elems.length ec, .slice ca L.covers.length cc, .int .i64 L.at_] 25)
  have b0 := below_new w (.cells #[.string L.name.1, .slice ea L.elems.length ec, .slice ca L.covers.length cc, .int .i64 L.at_] 25)
  obtain ⟨wb, hwb⟩ : ∃ x : World, x = w.alloc (.cells #[.string L.name.1, .slice ea L.elems.length ec, .slice ca L.covers.length cc, .int .i64 L.at_] 25) := ⟨_, rfl⟩
  rw [← hwb] at g0 b0
  obtain ⟨y0, y1, y2, y3⟩ := Box4.of g0
  go_enter Tryd.func8, Tryd.ntmps8
  go_wp2_with fail
  rw [← hwb]
  clear hwb y0 y1 y2 y3
  refine (head_any _ (hK.keep (keeps_below b0))).mono ?_
  rintro e w1 ⟨rfl, bN⟩
  replace g0 := block_keep g0 bN
  replace b0 := below_trans b0 bN
  clear bN
  obtain ⟨y0, y1, y2, y3⟩ := Box4.of g0
  go_wp2_with fail
  refine (Small_any _ L _ (h0.keep (keeps_below b0))).mono ?_
  rintro e w2 ⟨rfl, bN⟩
  replace g0 := block_keep g0 bN
  replace b0 := below_trans b0 bN
  clear bN y0 y1 y2 y3
  cases hsm : smallL L
  · go_wp2
    go_ret
    exact ⟨rfl, b0⟩
  clear hsm
  obtain ⟨y0, y1, y2, y3⟩ := Box4.of g0
  go_wp2_with fail
  refine (Check_any _ L _ (h0.keep (keeps_below b0)) (hK.keep (keeps_below b0))).mono ?_
  rintro e wB ⟨rfl, bN⟩
  replace g0 := block_keep g0 bN
  replace b0 := below_trans b0 bN
  clear bN y0 y1 y2 y3
  by_cases hck : checkL L = 0
  case neg =>
    have hq : (checkL L != 0) = true := by simpa using hck
    generalize checkL L = c at *
    go_wp2
    go_ret
    exact ⟨rfl, b0⟩
  have HCK := Lib.hid hck
  rw [hck]
  have hn8 := (args_parts (check_zero hck).1).1
  have hn1 := (args_parts (check_zero hck).1).2.1
  have HRG := Lib.hid (args_parts (check_zero hck).1).2.2.2
  have HLAT := Lib.hid (lat_ok hck)
  clear hck
  have bR := Below.refl wB.heap.size wB
  obtain ⟨t, HT⟩ : ∃ t, Hid (tabTo L.elems.length ra L.elems.length = t) := ⟨_, Lib.hid rfl⟩
  have htl : t.length ≤ L.elems.length := by rw [← HT.out, tabTo_len]; exact Nat.le_refl _
  have htl2 : L.elems.length ≤ t.length := by rw [← HT.out, tabTo_len]; exact Nat.le_refl _
  have HTN := Lib.hid (show ∀ x ∈ t, x < L.elems.length by rw [← HT.out]; exact tabTo_lt (by omega))
  obtain ⟨s, HS⟩ : ∃ s, Hid (tabTo L.elems.length rb L.elems.length = s) := ⟨_, Lib.hid rfl⟩
  have hsl : s.length ≤ L.elems.length := by rw [← HS.out, tabTo_len]; exact Nat.le_refl _
  have hsl2 : L.elems.length ≤ s.length := by rw [← HS.out, tabTo_len]; exact Nat.le_refl _
  have HSN := Lib.hid (show ∀ x ∈ s, x < L.elems.length by rw [← HS.out]; exact tabTo_lt (by omega))
  obtain ⟨f, HFf⟩ : ∃ f, Hid (cloTo L.elems.length (ordL L) t L.elems.length = f) := ⟨_, Lib.hid rfl⟩
  have hfl : f.length ≤ L.elems.length := by rw [← HFf.out, cloTo_len]; exact Nat.le_refl _
  have hfl2 : L.elems.length ≤ f.length := by rw [← HFf.out, cloTo_len]; exact Nat.le_refl _
  have HFNf := Lib.hid (show ∀ x ∈ f, x < L.elems.length by rw [← HFf.out]; exact HLAT.out.cloTo_lt HTN.out (by omega))
  have HCLf := Lib.hid (show IsClosed L.elems.length (ordL L) (fun a => t.getD a 0) (fun a => f.getD a 0) by rw [← HFf.out]; exact HLAT.out.cloTo_closed HTN.out (by omega))
  obtain ⟨q, HFq⟩ : ∃ f, Hid (cloTo L.elems.length (ordL L) s L.elems.length = f) := ⟨_, Lib.hid rfl⟩
  have hql : q.length ≤ L.elems.length := by rw [← HFq.out, cloTo_len]; exact Nat.le_refl _
  have hql2 : L.elems.length ≤ q.length := by rw [← HFq.out, cloTo_len]; exact Nat.le_refl _
  have HFNq := Lib.hid (show ∀ x ∈ q, x < L.elems.length by rw [← HFq.out]; exact HLAT.out.cloTo_lt HSN.out (by omega))
  have HCLq := Lib.hid (show IsClosed L.elems.length (ordL L) (fun a => s.getD a 0) (fun a => q.getD a 0) by rw [← HFq.out]; exact HLAT.out.cloTo_closed HSN.out (by omega))
  obtain ⟨y0, y1, y2, y3⟩ := Box4.of (block_keep g0 bR)
  go_wp2_with fail
  refine (table_any _ L _ ra _ (h0.keep (keeps_below (below_trans b0 bR))) (ha0.keep (keeps_below (below_trans b0 bR))) hn8).mono ?_
  rintro e wx11 ⟨ta, tc, rfl, hT, bN⟩
  rw [HT.out] at hT ⊢
  replace bR := below_trans bR bN
  clear bN y0 y1 y2 y3
  obtain ⟨y0, y1, y2, y3⟩ := Box4.of (block_keep g0 bR)
  go_wp2_with fail
  refine (closedT_any _ L _ t _ (h0.keep (keeps_below (below_trans b0 bR))) hT (hK.keep (keeps_below (below_trans b0 bR))) HCK htl htl2 HTN).mono ?_
  rintro e wx12 ⟨fa, fc, rfl, hF, bN⟩
  rw [HFf.out] at hF ⊢
  replace hT := hT.keep (keeps_below bN)
  replace bR := below_trans bR bN
  clear bN y0 y1 y2 y3
  have HS4 : ∀ W, Below wB.heap.size wB W → (fun w' => w'.cell? ⟨w.heap.size, 0, none⟩ = some (.string L.name.1) ∧ w'.cell? ⟨w.heap.size, 1, none⟩ = some (.slice ea L.elems.length ec) ∧ w'.cell? ⟨w.heap.size, 2, none⟩ = some (.slice ca L.covers.length cc) ∧ w'.cell? ⟨w.heap.size, 3, none⟩ = some (.int .i64 L.at_)) W := fun W hW => ⟨(Box4.of (block_keep g0 hW)).c0, (Box4.of (block_keep g0 hW)).c1, (Box4.of (block_keep g0 hW)).c2, (Box4.of (block_keep g0 hW)).c3⟩
  have HAL := Lib.hid (fun W (hW : Below wB.heap.size wB W) => (⟨h0.keep (keeps_below (below_trans b0 hW)), hK.keep (keeps_below (below_trans b0 hW))⟩ : IsLtc W _ L ∧ KeysAt W 0))
  have HBY := Lib.hid (fun W (hW : Below wB.heap.size wB W) => hb0.keep (keeps_below (below_trans b0 hW)))
  go_upto_region 6 with fail
  go_cut [10] from 30 to 34 (fun v10 wy => IsInts wy v10 (castI q) ∧ Below wx12.heap.size wx12 wy)
  case first =>
    refine wp_region_noPanic ?_
    refine wp_region_late (fun w' => w'.cell? ⟨w.heap.size, 0, none⟩ = some (.string L.name.1) ∧ w'.cell? ⟨w.heap.size, 1, none⟩ = some (.slice ea L.elems.length ec) ∧ w'.cell? ⟨w.heap.size, 2, none⟩ = some (.slice ca L.covers.length cc) ∧ w'.cell? ⟨w.heap.size, 3, none⟩ = some (.int .i64 L.at_)) 6 (by kernel_rfl) (HS4 _ (below_drew' bR)) (fun hHeld => ?_)
    refine any_take (by kernel_rfl) (i := 0) (oi := _) (v := ?_) rfl rfl (by kernel_rfl) (by kernel_rfl) (by kernel_rfl) (fun _ _ _ h => h) (Or.inl ⟨by rfl, ?_⟩) hHeld ?_
    rotate_left
    · intro w' hSw; try dsimp only at hSw
      go_simp
      try with_reducible rfl
    try simp only [puts, gets]
    refine any_take (by kernel_rfl) (i := 1) (oi := _) (v := ?_) rfl rfl (by kernel_rfl) (by kernel_rfl) (by kernel_rfl) (fun _ _ _ h => h) (Or.inl ⟨by rfl, ?_⟩) hHeld ?_
    rotate_left
    · intro w' hSw; try dsimp only at hSw
      go_simp
      try with_reducible rfl
    try simp only [puts, gets]
    refine any_take (by kernel_rfl) (i := 2) (oi := _) (v := ?_) rfl rfl (by kernel_rfl) (by kernel_rfl) (by kernel_rfl) (fun _ _ _ h => h) (Or.inl ⟨by rfl, ?_⟩) hHeld ?_
    rotate_left
    · intro w' hSw; try dsimp only at hSw
      go_simp
      try with_reducible rfl
    try simp only [puts, gets]
    refine any_next (i := 3) (by kernel_rfl) rfl rfl (fun K hK => ?_)
    go_simp
    go_at_call 27
    refine table_ts (HAL.out _ (below_drew' bR)).1 (HBY.out _ (below_drew' bR)) hn8 HS ?_
    intro sa sc wq1 hsi bq1
    replace bq1 : Below wx12.heap.size wx12 wq1 := below_undrew bq1
    have bB1 := below_trans bR bq1
    refine hK.out _ _ ?_ (fun hHeld => ?_)
    · exact HS4 _ bB1
    clear hK K
    try simp only [puts, gets]
    refine any_next (i := 4) (by kernel_rfl) rfl rfl (fun K hK => ?_)
    go_simp
    go_at_call 28
    refine closed_ts (HAL.out _ bB1) hsi HCK hsl hsl2 HSN HFq ?_
    intro qa qc wq2 hqi bq2
    have bB2 := below_trans bB1 bq2
    refine hK.out _ _ ?_ (fun hHeld => ?_)
    · exact HS4 _ bB2
    clear hK K
    try simp only [puts, gets]
    refine any_take (by kernel_rfl) (i := 5) (oi := _) (v := ?_) rfl rfl (by kernel_rfl) (by kernel_rfl) (by kernel_rfl) (fun _ _ _ h => h) (Or.inl ⟨by rfl, ?_⟩) hHeld ?_
    rotate_left
    · intro w' hSw; try dsimp only at hSw
      go_simp
      try with_reducible rfl
    try simp only [puts, gets]
    refine any_done (by kernel_rfl) ?_ _
    refine NoPanic.normal ?_
    go_wp2
    go_meet
    case rel => exact ⟨hqi, below_trans bq1 bq2⟩
  case rest =>
    obtain ⟨hQ, bN⟩ := hcut
    obtain ⟨wy, rfl⟩ : ∃ wy : World, wy = wc := ⟨_, rfl⟩
    obtain ⟨qa, qc, rfl, -, -, -⟩ := IsRows.shape hQ
    replace hT := hT.keep (keeps_below bN)
    replace hF := hF.keep (keeps_below bN)
    replace bR := below_trans bR bN
    clear bN
    clear HS4 HAL HBY
    have HMf := Lib.hid (monoL_of HCK.out HLAT.out (l := f) (by omega) HFNf.out (HLAT.out.closed_mono HCLf.out))
    have HMq := Lib.hid (monoL_of HCK.out HLAT.out (l := q) (by omega) HFNq.out (HLAT.out.closed_mono HCLq.out))
    have HMt := Lib.hid (monoL_closed HCK.out HLAT.out (t := t) (f := f) (by omega) (by omega) HTN.out HCLf.out)
    obtain ⟨y0, y1, y2, y3⟩ := Box4.of (block_keep g0 bR)
    go_wp2_with fail
    refine (Mono_any _ L _ (castI f) _ (h0.keep (keeps_below (below_trans b0 bR))) hF (hK.keep (keeps_below (below_trans b0 bR)))).mono ?_
    rintro e wx13 ⟨rfl, bN⟩
    rw [HMf.out]
    replace hT := hT.keep (keeps_below bN)
    replace hF := hF.keep (keeps_below bN)
    replace hQ := hQ.keep (keeps_below bN)
    replace bR := below_trans bR bN
    clear bN y0 y1 y2 y3
    obtain ⟨y0, y1, y2, y3⟩ := Box4.of (block_keep g0 bR)
    go_wp2_with fail
    refine (Mono_any _ L _ (castI q) _ (h0.keep (keeps_below (below_trans b0 bR))) hQ (hK.keep (keeps_below (below_trans b0 bR)))).mono ?_
    rintro e wx14 ⟨rfl, bN⟩
    rw [HMq.out]
    replace hT := hT.keep (keeps_below bN)
    replace hF := hF.keep (keeps_below bN)
    replace hQ := hQ.keep (keeps_below bN)
    replace bR := below_trans bR bN
    clear bN y0 y1 y2 y3
    obtain ⟨y0, y1, y2, y3⟩ := Box4.of (block_keep g0 bR)
    go_wp2_with fail
    refine (Mono_any _ L _ (castI t) _ (h0.keep (keeps_below (below_trans b0 bR))) hT (hK.keep (keeps_below (below_trans b0 bR)))).mono ?_
    rintro e wx15 ⟨rfl, bN⟩
    rw [HMt.out]
    replace hT := hT.keep (keeps_below bN)
    replace hF := hF.keep (keeps_below bN)
    replace hQ := hQ.keep (keeps_below bN)
    replace bR := below_trans bR bN
    clear bN y0 y1 y2 y3
    obtain ⟨y0, y1, y2, y3⟩ := Box4.of (block_keep g0 bR)
    go_wp2_with fail
    refine (Ints_any _ _ (castI t) (castI f) _ hT hF).mono ?_
    rintro e wx16 ⟨rfl, bN⟩
    replace hT := hT.keep (keeps_below bN)
    replace hF := hF.keep (keeps_below bN)
    replace hQ := hQ.keep (keeps_below bN)
    replace bR := below_trans bR bN
    clear bN y0 y1 y2 y3
    replace g0 := block_keep g0 bR
    replace b0 := below_trans b0 bR
    clear bR hT
    have htfl : L.elems.length ≤ f.length := by omega
    have htql : L.elems.length ≤ q.length := by omega
    have hcf : (castI f).length ≤ L.elems.length := by rw [castI_length]; omega
    have hcf2 : L.elems.length ≤ (castI f).length := by rw [castI_length]; omega
    have hcq2 : L.elems.length ≤ (castI q).length := by rw [castI_length]; omega
    have o1 : OwnI (wx16.alloc (.cells #[] 3)) wx16.heap.size (.slice (some ⟨wx16.heap.size, 0, none⟩) 0 0) (castI (comTo f q 0)) := OwnI.lit wx16 [] (by decide)
    have b1 := below_new wx16 (.cells #[] 3)
    obtain ⟨tf, HTF⟩ : ∃ b, Hid (decide (castI t = castI f) = b) := ⟨_, Lib.hid rfl⟩
    rw [HTF.out]
    cases tf
    · skip
      obtain ⟨y0, y1, y2, y3⟩ := Box4.of g0
      go_wp2
      clear y0 y1 y2 y3
      go_loopw [12, 11, 13] (fun i com _ wr => ∃ k : Nat, k ≤ L.elems.length ∧ i = .int .i64 k ∧ OwnI wr wx16.heap.size com (castI (comTo f q k)) ∧ Below wx16.heap.size wx16 wr) (fun i _ _ _ => L.elems.length - (intOf i).toNat)
      case atStart => exact ⟨0, Nat.zero_le _, rfl, o1, b1⟩
      case round =>
        clear o1 b1
        obtain ⟨k, hk, rfl, hO, bR⟩ := hrel
        obtain ⟨wo, rfl⟩ : ∃ wo : World, wo = wr := ⟨_, rfl⟩
        obtain ⟨oa, oc, rfl⟩ := hO.len
        have hlc : (castI (comTo f q k)).length ≤ 1000000 := by rw [castI_length, comTo_len]; omega
        have hsz := bR.size
        by_cases hlt : k < L.elems.length
        · have hdk : decide (k < (castI f).length) = true := decide_eq_true (by omega)
          obtain ⟨x, HX⟩ : ∃ x, Hid (f.getD k 0 = x) := ⟨_, Lib.hid rfl⟩
          have hxn : x < L.elems.length := by rw [← HX.out, getD_of (by omega)]; exact HFNf.out _ (List.getElem_mem _)
          obtain ⟨z, HZ⟩ : ∃ z, Hid (q.getD x 0 = z) := ⟨_, Lib.hid rfl⟩
          have HCS := Lib.hid (comTo_succ f q k)
          rw [HX.out, HZ.out] at HCS
          obtain ⟨b1, of1, hfe, hcf0⟩ := hF.at_ (castI_get (l := f) (k := k) (by omega))
          rw [HX.out] at hcf0
          subst hfe
          obtain ⟨b2, of2, hqe, hcq0⟩ := hQ.at_ (castI_get (l := q) (k := x) (by omega))
          rw [HZ.out] at hcq0
          subst hqe
          have hcfo := cell_keep bR hcf0
          have hcqo := cell_keep bR hcq0
          have hkI : (k : Int) < ((castI f).length : Int) := by omega
          have hk0 : (0 : Int) ≤ (k : Int) := by omega
          have hxI : (x : Int) < ((castI q).length : Int) := by omega
          have hx0 : (0 : Int) ≤ (x : Int) := by omega
          go_upto_region 14 with (at_builtin; refine wpList_pushI (wr := wo) (x := (z : Int)) (g1 := wo.heap.size) rfl (.tmp 61) (.tmp 69) rfl rfl rfl hO (below_new _ _) (heap_alloc_new wo _) hsz hlc ?_; intro g1 cap1 w8 hO8 b8)
          clear hcfo hcqo hcq0 hO
          rw [← castI_snoc] at hO8
          have b08 := bR.trans b8
          have hO9 : OwnI w8 wx16.heap.size (.slice (some ⟨g1, 0, none⟩) ((castI (comTo f q k)).length + 1) cap1) (castI (comTo f q (k + 1))) := by rw [HCS.out]; exact hO8
          clear hO8 bR
          have bI0 := Below.refl w8.heap.size w8
          go_wp2
          go_loopw [13] (fun i wr => ∃ j : Nat, j ≤ L.elems.length ∧ i = .int .i64 j ∧ Below w8.heap.size w8 wr) (fun i _ => L.elems.length - (intOf i).toNat)
          case atStart => exact ⟨0, Nat.zero_le _, rfl, bI0⟩
          case round =>
            clear bI0
            obtain ⟨j, hj, rfl, bI⟩ := hrel
            obtain ⟨wi, rfl⟩ : ∃ wi : World, wi = wr := ⟨_, rfl⟩
            by_cases hjl : j < L.elems.length
            · have hdj : decide (j < (castI f).length) = true := decide_eq_true (by omega)
              obtain ⟨u, HU⟩ : ∃ x, Hid (f.getD j 0 = x) := ⟨_, Lib.hid rfl⟩
              have hun : u < L.elems.length := by rw [← HU.out, getD_of (by omega)]; exact HFNf.out _ (List.getElem_mem _)
              obtain ⟨m1, hm1, hl1⟩ := HLAT.out.join_is hxn hun
              have HM1 := Lib.hid hm1
              obtain ⟨m2, hm2, hl2⟩ := HLAT.out.join_is hlt hjl
              have HM2 := Lib.hid hm2
              have hm2n := hl2.1
              have hm1n := hl1.1
              obtain ⟨v2, HV2⟩ : ∃ x, Hid (f.getD m2 0 = x) := ⟨_, Lib.hid rfl⟩
              have hv2n : v2 < L.elems.length := by rw [← HV2.out, getD_of (by omega)]; exact HFNf.out _ (List.getElem_mem _)
              have HLQ := Lib.hid (mono_join (f := fun a => f.getD a 0) (HLAT.out.closed_mono HCLf.out) (a := k) (b := j) (i := m1) (j := m2) (by show IsLub _ _ [f.getD k 0, f.getD j 0] m1; rw [HX.out, HU.out]; exact hl1) hl2 (by show f.getD m2 0 < _; rw [HV2.out]; exact hv2n) : ordL L m1 (f.getD m2 0) = true)
              rw [HV2.out] at HLQ
              clear hm1 hm2 hl1 hl2
              obtain ⟨b3, of3, hfe3, hcf3⟩ := hF.at_ (castI_get (l := f) (k := j) (by omega))
              rw [HU.out] at hcf3
              cases hfe3
              obtain ⟨b4, of4, hfe4, hcf4⟩ := hF.at_ (castI_get (l := f) (k := m2) (by omega))
              rw [HV2.out] at hcf4
              cases hfe4
              have bZ := b08.trans (bI.mono b08.size)
              have hcfa := cell_keep bZ hcf0
              have hcfb := cell_keep bZ hcf3
              have hcfc := cell_keep bZ hcf4
              have hjI : (j : Int) < ((castI f).length : Int) := by omega
              have hj0 : (0 : Int) ≤ (j : Int) := by omega
              have hmI : (m2 : Int) < ((castI f).length : Int) := by omega
              have hm0 : (0 : Int) ≤ (m2 : Int) := by omega
              have HS5 : ∀ W, Below wi.heap.size wi W → (fun w' => w'.cell? ⟨w.heap.size, 0, none⟩ = some (.string L.name.1) ∧ w'.cell? ⟨w.heap.size, 1, none⟩ = some (.slice ea L.elems.length ec) ∧ w'.cell? ⟨w.heap.size, 2, none⟩ = some (.slice ca L.covers.length cc) ∧ w'.cell? ⟨w.heap.size, 3, none⟩ = some (.int .i64 L.at_) ∧ w'.cell? ⟨b1, of1 + k, none⟩ = some (.int .i64 x) ∧ w'.cell? ⟨b1, of1 + j, none⟩ = some (.int .i64 u) ∧ w'.cell? ⟨b1, of1 + m2, none⟩ = some (.int .i64 v2)) W := fun W hW => ⟨(Box4.of (block_keep g0 (below_trans bZ hW))).c0, (Box4.of (block_keep g0 (below_trans bZ hW))).c1, (Box4.of (block_keep g0 (below_trans bZ hW))).c2, (Box4.of (block_keep g0 (below_trans bZ hW))).c3, cell_keep hW hcfa, cell_keep hW hcfb, cell_keep hW hcfc⟩
              have HAL := Lib.hid (fun W (hW : Below wi.heap.size wi W) => (⟨h0.keep (keeps_below (below_trans b0 (below_trans bZ hW))), hK.keep (keeps_below (below_trans b0 (below_trans bZ hW)))⟩ : IsLtc W _ L ∧ KeysAt W 0))
              go_upto_region 17 with fail
              go_cut [96] from 77 to 96 (fun v96 wx => v96 = .bool false ∧ Below wi.heap.size wi wx)
              case first =>
                refine wp_region_noPanic ?_
                refine wp_region_late (fun w' => w'.cell? ⟨w.heap.size, 0, none⟩ = some (.string L.name.1) ∧ w'.cell? ⟨w.heap.size, 1, none⟩ = some (.slice ea L.elems.length ec) ∧ w'.cell? ⟨w.heap.size, 2, none⟩ = some (.slice ca L.covers.length cc) ∧ w'.cell? ⟨w.heap.size, 3, none⟩ = some (.int .i64 L.at_) ∧ w'.cell? ⟨b1, of1 + k, none⟩ = some (.int .i64 x) ∧ w'.cell? ⟨b1, of1 + j, none⟩ = some (.int .i64 u) ∧ w'.cell? ⟨b1, of1 + m2, none⟩ = some (.int .i64 v2)) 20 (by kernel_rfl) (HS5 _ (below_drew' (Below.refl _ _))) (fun hHeld => ?_)
                refine any_take (by kernel_rfl) (i := 0) (oi := _) (v := ?_) rfl rfl (by kernel_rfl) (by kernel_rfl) (by kernel_rfl) (fun _ _ _ h => h) (Or.inl ⟨by rfl, ?_⟩) hHeld ?_
                rotate_left
                · intro w' hSw; try dsimp only at hSw
                  go_simp
                  try with_reducible rfl
                try simp only [puts, gets]
                refine any_take (by kernel_rfl) (i := 1) (oi := _) (v := ?_) rfl rfl (by kernel_rfl) (by kernel_rfl) (by kernel_rfl) (fun _ _ _ h => h) (Or.inl ⟨by rfl, ?_⟩) hHeld ?_
                rotate_left
                · intro w' hSw; try dsimp only at hSw
                  go_simp
                  try with_reducible rfl
                try simp only [puts, gets]
                refine any_take (by kernel_rfl) (i := 2) (oi := _) (v := ?_) rfl rfl (by kernel_rfl) (by kernel_rfl) (by kernel_rfl) (fun _ _ _ h => h) (Or.inl ⟨by rfl, ?_⟩) hHeld ?_
                rotate_left
                · intro w' hSw; try dsimp only at hSw
                  go_simp
                  try with_reducible rfl
                try simp only [puts, gets]
                refine any_take (by kernel_rfl) (i := 3) (oi := _) (v := ?_) rfl rfl (by kernel_rfl) (by kernel_rfl) (by kernel_rfl) (fun _ _ _ h => h) (Or.inl ⟨by rfl, ?_⟩) hHeld ?_
                rotate_left
                · intro w' hSw; try dsimp only at hSw
                  go_simp
                  try with_reducible rfl
                try simp only [puts, gets]
                refine any_take (by kernel_rfl) (i := 4) (oi := _) (v := ?_) rfl rfl (by kernel_rfl) (by kernel_rfl) (by kernel_rfl) (fun _ _ _ h => h) (Or.inl ⟨by rfl, ?_⟩) hHeld ?_
                rotate_left
                · intro w' hSw; try dsimp only at hSw
                  go_simp
                  try with_reducible rfl
                try simp only [puts, gets]
                refine any_take (by kernel_rfl) (i := 5) (oi := _) (v := ?_) rfl rfl (by kernel_rfl) (by kernel_rfl) (by kernel_rfl) (fun _ _ _ h => h) (Or.inl ⟨by rfl, ?_⟩) hHeld ?_
                rotate_left
                · intro w' hSw; try dsimp only at hSw
                  go_simp
                  try with_reducible rfl
                try simp only [puts, gets]
                refine any_take (by kernel_rfl) (i := 6) (oi := _) (v := ?_) rfl rfl (by kernel_rfl) (by kernel_rfl) (by kernel_rfl) (fun _ _ _ h => h) (Or.inl ⟨by rfl, ?_⟩) hHeld ?_
                rotate_left
                · intro w' hSw; try dsimp only at hSw
                  go_simp
                  try with_reducible rfl
                try simp only [puts, gets]
                refine any_take (by kernel_rfl) (i := 7) (oi := _) (v := ?_) rfl rfl (by kernel_rfl) (by kernel_rfl) (by kernel_rfl) (fun _ _ _ h => h) (Or.inl ⟨by rfl, ?_⟩) hHeld ?_
                rotate_left
                · intro w' hSw; try dsimp only at hSw
                  go_simp
                  try with_reducible rfl
                try simp only [puts, gets]
                refine any_take (by kernel_rfl) (i := 8) (oi := _) (v := ?_) rfl rfl (by kernel_rfl) (by kernel_rfl) (by kernel_rfl) (fun _ _ _ h => h) (Or.inl ⟨by rfl, ?_⟩) hHeld ?_
                rotate_left
                · intro w' hSw; try dsimp only at hSw
                  go_simp
                  try with_reducible rfl
                try simp only [puts, gets]
                refine any_take (by kernel_rfl) (i := 9) (oi := _) (v := ?_) rfl rfl (by kernel_rfl) (by kernel_rfl) (by kernel_rfl) (fun _ _ _ h => h) (Or.inl ⟨by rfl, ?_⟩) hHeld ?_
                rotate_left
                · intro w' hSw; try dsimp only at hSw
                  go_simp
                  try with_reducible rfl
                try simp only [puts, gets]
                refine any_take (by kernel_rfl) (i := 11) (oi := _) (v := ?_) rfl rfl (by kernel_rfl) (by kernel_rfl) (by kernel_rfl) (fun _ _ _ h => h) (Or.inl ⟨by rfl, ?_⟩) hHeld ?_
                rotate_left
                · intro w' hSw; try dsimp only at hSw
                  go_simp
                  try with_reducible rfl
                try simp only [puts, gets]
                refine any_take (by kernel_rfl) (i := 12) (oi := _) (v := ?_) rfl rfl (by kernel_rfl) (by kernel_rfl) (by kernel_rfl) (fun _ _ _ h => h) (Or.inl ⟨by rfl, ?_⟩) hHeld ?_
                rotate_left
                · intro w' hSw; try dsimp only at hSw
                  go_simp
                  try with_reducible rfl
                try simp only [puts, gets]
                refine any_take (by kernel_rfl) (i := 13) (oi := _) (v := ?_) rfl rfl (by kernel_rfl) (by kernel_rfl) (by kernel_rfl) (fun _ _ _ h => h) (Or.inl ⟨by rfl, ?_⟩) hHeld ?_
                rotate_left
                · intro w' hSw; try dsimp only at hSw
                  go_simp
                  try with_reducible rfl
                try simp only [puts, gets]
                refine any_take (by kernel_rfl) (i := 14) (oi := _) (v := ?_) rfl rfl (by kernel_rfl) (by kernel_rfl) (by kernel_rfl) (fun _ _ _ h => h) (Or.inl ⟨by rfl, ?_⟩) hHeld ?_
                rotate_left
                · intro w' hSw; try dsimp only at hSw
                  go_simp
                  try with_reducible rfl
                try simp only [puts, gets]
                refine any_next (i := 10) (by kernel_rfl) rfl rfl (fun K hK => ?_)
                go_simp
                go_at_call 16
                refine join_ts HCK (HAL.out _ (below_drew' (Below.refl _ _))) hxn hun HM1 ?_
                intro wq1 bq1
                replace bq1 : Below wi.heap.size wi wq1 := below_undrew bq1
                refine hK.out _ _ ?_ (fun hHeld => ?_)
                · exact HS5 _ bq1
                clear hK K
                try simp only [puts, gets]
                refine any_next (i := 15) (by kernel_rfl) rfl rfl (fun K hK => ?_)
                go_simp
                go_at_call 16
                refine join_ts HCK (HAL.out _ bq1) hlt hjl HM2 ?_
                intro wq2 bq2
                replace bq2 : Below wi.heap.size wi wq2 := below_trans bq1 bq2
                refine hK.out _ _ ?_ (fun hHeld => ?_)
                · exact HS5 _ bq2
                clear hK K
                try simp only [puts, gets]
                refine any_take (by kernel_rfl) (i := 16) (oi := _) (v := ?_) rfl rfl (by kernel_rfl) (by kernel_rfl) (by kernel_rfl) (fun _ _ _ h => h) (Or.inl ⟨by rfl, ?_⟩) hHeld ?_
                rotate_left
                · intro w' hSw; try dsimp only at hSw
                  go_simp
                  try with_reducible rfl
                try simp only [puts, gets]
                refine any_take (by kernel_rfl) (i := 17) (oi := _) (v := ?_) rfl rfl (by kernel_rfl) (by kernel_rfl) (by kernel_rfl) (fun _ _ _ h => h) (Or.inl ⟨by rfl, ?_⟩) hHeld ?_
                rotate_left
                · intro w' hSw; try dsimp only at hSw
                  go_simp
                  try with_reducible rfl
                try simp only [puts, gets]
                refine any_next (i := 18) (by kernel_rfl) rfl rfl (fun K hK => ?_)
                go_simp
                go_at_call 14
                refine leq_ts HCK (HAL.out _ bq2) hm1n hv2n HLQ ?_
                intro wq3 bq3
                replace bq3 : Below wi.heap.size wi wq3 := below_trans bq2 bq3
                refine hK.out _ _ ?_ (fun hHeld => ?_)
                · exact HS5 _ bq3
                clear hK K
                try simp only [puts, gets]
                refine any_take (by kernel_rfl) (i := 19) (oi := _) (v := ?_) rfl rfl (by kernel_rfl) (by kernel_rfl) (by kernel_rfl) (fun _ _ _ h => h) (Or.inl ⟨by rfl, ?_⟩) hHeld ?_
                rotate_left
                · intro w' hSw; try dsimp only at hSw
                  go_simp
                  try with_reducible rfl
                try simp only [puts, gets]
                refine any_done (by kernel_rfl) ?_ _
                refine NoPanic.normal ?_
                go_wp2
                go_meet
                case rel => exact ⟨rfl, bq3⟩
              case rest =>
                obtain ⟨rfl, bQ⟩ := hcut
                clear HS5 HAL
                have bI2 := below_trans bI bQ
                go_wp2
                go_roundw
                case rel => exact ⟨j + 1, by omega, by go_num, bI2⟩
                case measure => simp [intOf]; omega
            · have e : j = L.elems.length := by omega
              subst e
              have hdj : decide (L.elems.length < (castI f).length) = false := decide_eq_false (by omega)
              have bZ := b08.trans (bI.mono b08.size)
              have hO3 := hO9.keep bI
              go_wp2
              go_roundw
              case rel => exact ⟨k + 1, by omega, by go_num, by simpa [castI_length, comTo_len] using hO3, bZ⟩
              case measure => simp [intOf]; omega
        · have e : k = L.elems.length := by omega
          subst e
          have hdk : decide (L.elems.length < (castI f).length) = false := decide_eq_false (by omega)
          have hOI := hO.is (by omega)
          have HMO := Lib.hid (monoL_of HCK.out HLAT.out (l := comTo f q L.elems.length) (comTo_len _ _ _) (com_lt HFNf.out htfl HFNq.out htql) (com_mono HLAT.out.lt (HLAT.out.closed_mono HCLf.out) (HLAT.out.closed_mono HCLq.out)))
          obtain ⟨y0, y1, y2, y3⟩ := Box4.of (block_keep g0 bR)
          go_wp2_with fail
          refine (Mono_any _ L _ (castI (comTo f q L.elems.length)) _ (h0.keep (keeps_below (below_trans b0 bR))) hOI (hK.keep (keeps_below (below_trans b0 bR)))).mono ?_
          rintro e wf ⟨rfl, bN⟩
          rw [HMO.out]
          go_wp2
          go_ret
          exact ⟨rfl, below_trans (below_trans b0 bR) bN⟩
    · skip
      obtain ⟨y0, y1, y2, y3⟩ := Box4.of g0
      go_wp2
      clear y0 y1 y2 y3
      go_loopw [12, 11, 13] (fun i com _ wr => ∃ k : Nat, k ≤ L.elems.length ∧ i = .int .i64 k ∧ OwnI wr wx16.heap.size com (castI (comTo f q k)) ∧ Below wx16.heap.size wx16 wr) (fun i _ _ _ => L.elems.length - (intOf i).toNat)
      case atStart => exact ⟨0, Nat.zero_le _, rfl, o1, b1⟩
      case round =>
        clear o1 b1
        obtain ⟨k, hk, rfl, hO, bR⟩ := hrel
        obtain ⟨wo, rfl⟩ : ∃ wo : World, wo = wr := ⟨_, rfl⟩
        obtain ⟨oa, oc, rfl⟩ := hO.len
        have hlc : (castI (comTo f q k)).length ≤ 1000000 := by rw [castI_length, comTo_len]; omega
        have hsz := bR.size
        by_cases hlt : k < L.elems.length
        · have hdk : decide (k < (castI f).length) = true := decide_eq_true (by omega)
          obtain ⟨x, HX⟩ : ∃ x, Hid (f.getD k 0 = x) := ⟨_, Lib.hid rfl⟩
          have hxn : x < L.elems.length := by rw [← HX.out, getD_of (by omega)]; exact HFNf.out _ (List.getElem_mem _)
          obtain ⟨z, HZ⟩ : ∃ z, Hid (q.getD x 0 = z) := ⟨_, Lib.hid rfl⟩
          have HCS := Lib.hid (comTo_succ f q k)
          rw [HX.out, HZ.out] at HCS
          obtain ⟨b1, of1, hfe, hcf0⟩ := hF.at_ (castI_get (l := f) (k := k) (by omega))
          rw [HX.out] at hcf0
          subst hfe
          obtain ⟨b2, of2, hqe, hcq0⟩ := hQ.at_ (castI_get (l := q) (k := x) (by omega))
          rw [HZ.out] at hcq0
          subst hqe
          have hcfo := cell_keep bR hcf0
          have hcqo := cell_keep bR hcq0
          have hkI : (k : Int) < ((castI f).length : Int) := by omega
          have hk0 : (0 : Int) ≤ (k : Int) := by omega
          have hxI : (x : Int) < ((castI q).length : Int) := by omega
          have hx0 : (0 : Int) ≤ (x : Int) := by omega
          go_upto_region 14 with (at_builtin; refine wpList_pushI (wr := wo) (x := (z : Int)) (g1 := wo.heap.size) rfl (.tmp 61) (.tmp 69) rfl rfl rfl hO (below_new _ _) (heap_alloc_new wo _) hsz hlc ?_; intro g1 cap1 w8 hO8 b8)
          clear hcfo hcqo hcq0 hO
          rw [← castI_snoc] at hO8
          have b08 := bR.trans b8
          have hO9 : OwnI w8 wx16.heap.size (.slice (some ⟨g1, 0, none⟩) ((castI (comTo f q k)).length + 1) cap1) (castI (comTo f q (k + 1))) := by rw [HCS.out]; exact hO8
          clear hO8 bR
          have bI0 := Below.refl w8.heap.size w8
          go_wp2
          go_loopw [13] (fun i wr => ∃ j : Nat, j ≤ L.elems.length ∧ i = .int .i64 j ∧ Below w8.heap.size w8 wr) (fun i _ => L.elems.length - (intOf i).toNat)
          case atStart => exact ⟨0, Nat.zero_le _, rfl, bI0⟩
          case round =>
            clear bI0
            obtain ⟨j, hj, rfl, bI⟩ := hrel
            obtain ⟨wi, rfl⟩ : ∃ wi : World, wi = wr := ⟨_, rfl⟩
            by_cases hjl : j < L.elems.length
            · have hdj : decide (j < (castI f).length) = true := decide_eq_true (by omega)
              obtain ⟨u, HU⟩ : ∃ x, Hid (f.getD j 0 = x) := ⟨_, Lib.hid rfl⟩
              have hun : u < L.elems.length := by rw [← HU.out, getD_of (by omega)]; exact HFNf.out _ (List.getElem_mem _)
              obtain ⟨m1, hm1, hl1⟩ := HLAT.out.join_is hxn hun
              have HM1 := Lib.hid hm1
              obtain ⟨m2, hm2, hl2⟩ := HLAT.out.join_is hlt hjl
              have HM2 := Lib.hid hm2
              have hm2n := hl2.1
              have hm1n := hl1.1
              obtain ⟨v2, HV2⟩ : ∃ x, Hid (f.getD m2 0 = x) := ⟨_, Lib.hid rfl⟩
              have hv2n : v2 < L.elems.length := by rw [← HV2.out, getD_of (by omega)]; exact HFNf.out _ (List.getElem_mem _)
              have HLQ := Lib.hid (mono_join (f := fun a => f.getD a 0) (HLAT.out.closed_mono HCLf.out) (a := k) (b := j) (i := m1) (j := m2) (by show IsLub _ _ [f.getD k 0, f.getD j 0] m1; rw [HX.out, HU.out]; exact hl1) hl2 (by show f.getD m2 0 < _; rw [HV2.out]; exact hv2n) : ordL L m1 (f.getD m2 0) = true)
              rw [HV2.out] at HLQ
              clear hm1 hm2 hl1 hl2
              obtain ⟨b3, of3, hfe3, hcf3⟩ := hF.at_ (castI_get (l := f) (k := j) (by omega))
              rw [HU.out] at hcf3
              cases hfe3
              obtain ⟨b4, of4, hfe4, hcf4⟩ := hF.at_ (castI_get (l := f) (k := m2) (by omega))
              rw [HV2.out] at hcf4
              cases hfe4
              have bZ := b08.trans (bI.mono b08.size)
              have hcfa := cell_keep bZ hcf0
              have hcfb := cell_keep bZ hcf3
              have hcfc := cell_keep bZ hcf4
              have hjI : (j : Int) < ((castI f).length : Int) := by omega
              have hj0 : (0 : Int) ≤ (j : Int) := by omega
              have hmI : (m2 : Int) < ((castI f).length : Int) := by omega
              have hm0 : (0 : Int) ≤ (m2 : Int) := by omega
              have HS5 : ∀ W, Below wi.heap.size wi W → (fun w' => w'.cell? ⟨w.heap.size, 0, none⟩ = some (.string L.name.1) ∧ w'.cell? ⟨w.heap.size, 1, none⟩ = some (.slice ea L.elems.length ec) ∧ w'.cell? ⟨w.heap.size, 2, none⟩ = some (.slice ca L.covers.length cc) ∧ w'.cell? ⟨w.heap.size, 3, none⟩ = some (.int .i64 L.at_) ∧ w'.cell? ⟨b1, of1 + k, none⟩ = some (.int .i64 x) ∧ w'.cell? ⟨b1, of1 + j, none⟩ = some (.int .i64 u) ∧ w'.cell? ⟨b1, of1 + m2, none⟩ = some (.int .i64 v2)) W := fun W hW => ⟨(Box4.of (block_keep g0 (below_trans bZ hW))).c0, (Box4.of (block_keep g0 (below_trans bZ hW))).c1, (Box4.of (block_keep g0 (below_trans bZ hW))).c2, (Box4.of (block_keep g0 (below_trans bZ hW))).c3, cell_keep hW hcfa, cell_keep hW hcfb, cell_keep hW hcfc⟩
              have HAL := Lib.hid (fun W (hW : Below wi.heap.size wi W) => (⟨h0.keep (keeps_below (below_trans b0 (below_trans bZ hW))), hK.keep (keeps_below (below_trans b0 (below_trans bZ hW)))⟩ : IsLtc W _ L ∧ KeysAt W 0))
              go_upto_region 17 with fail
              go_cut [96] from 77 to 96 (fun v96 wx => v96 = .bool false ∧ Below wi.heap.size wi wx)
              case first =>
                refine wp_region_noPanic ?_
                refine wp_region_late (fun w' => w'.cell? ⟨w.heap.size, 0, none⟩ = some (.string L.name.1) ∧ w'.cell? ⟨w.heap.size, 1, none⟩ = some (.slice ea L.elems.length ec) ∧ w'.cell? ⟨w.heap.size, 2, none⟩ = some (.slice ca L.covers.length cc) ∧ w'.cell? ⟨w.heap.size, 3, none⟩ = some (.int .i64 L.at_) ∧ w'.cell? ⟨b1, of1 + k, none⟩ = some (.int .i64 x) ∧ w'.cell? ⟨b1, of1 + j, none⟩ = some (.int .i64 u) ∧ w'.cell? ⟨b1, of1 + m2, none⟩ = some (.int .i64 v2)) 20 (by kernel_rfl) (HS5 _ (below_drew' (Below.refl _ _))) (fun hHeld => ?_)
                refine any_take (by kernel_rfl) (i := 0) (oi := _) (v := ?_) rfl rfl (by kernel_rfl) (by kernel_rfl) (by kernel_rfl) (fun _ _ _ h => h) (Or.inl ⟨by rfl, ?_⟩) hHeld ?_
                rotate_left
                · intro w' hSw; try dsimp only at hSw
                  go_simp
                  try with_reducible rfl
                try simp only [puts, gets]
                refine any_take (by kernel_rfl) (i := 1) (oi := _) (v := ?_) rfl rfl (by kernel_rfl) (by kernel_rfl) (by kernel_rfl) (fun _ _ _ h => h) (Or.inl ⟨by rfl, ?_⟩) hHeld ?_
                rotate_left
                · intro w' hSw; try dsimp only at hSw
                  go_simp
                  try with_reducible rfl
                try simp only [puts, gets]
                refine any_take (by kernel_rfl) (i := 2) (oi := _) (v := ?_) rfl rfl (by kernel_rfl) (by kernel_rfl) (by kernel_rfl) (fun _ _ _ h => h) (Or.inl ⟨by rfl, ?_⟩) hHeld ?_
                rotate_left
                · intro w' hSw; try dsimp only at hSw
                  go_simp
                  try with_reducible rfl
                try simp only [puts, gets]
                refine any_take (by kernel_rfl) (i := 3) (oi := _) (v := ?_) rfl rfl (by kernel_rfl) (by kernel_rfl) (by kernel_rfl) (fun _ _ _ h => h) (Or.inl ⟨by rfl, ?_⟩) hHeld ?_
                rotate_left
                · intro w' hSw; try dsimp only at hSw
                  go_simp
                  try with_reducible rfl
                try simp only [puts, gets]
                refine any_take (by kernel_rfl) (i := 4) (oi := _) (v := ?_) rfl rfl (by kernel_rfl) (by kernel_rfl) (by kernel_rfl) (fun _ _ _ h => h) (Or.inl ⟨by rfl, ?_⟩) hHeld ?_
                rotate_left
                · intro w' hSw; try dsimp only at hSw
                  go_simp
                  try with_reducible rfl
                try simp only [puts, gets]
                refine any_take (by kernel_rfl) (i := 5) (oi := _) (v := ?_) rfl rfl (by kernel_rfl) (by kernel_rfl) (by kernel_rfl) (fun _ _ _ h => h) (Or.inl ⟨by rfl, ?_⟩) hHeld ?_
                rotate_left
                · intro w' hSw; try dsimp only at hSw
                  go_simp
                  try with_reducible rfl
                try simp only [puts, gets]
                refine any_take (by kernel_rfl) (i := 6) (oi := _) (v := ?_) rfl rfl (by kernel_rfl) (by kernel_rfl) (by kernel_rfl) (fun _ _ _ h => h) (Or.inl ⟨by rfl, ?_⟩) hHeld ?_
                rotate_left
                · intro w' hSw; try dsimp only at hSw
                  go_simp
                  try with_reducible rfl
                try simp only [puts, gets]
                refine any_take (by kernel_rfl) (i := 7) (oi := _) (v := ?_) rfl rfl (by kernel_rfl) (by kernel_rfl) (by kernel_rfl) (fun _ _ _ h => h) (Or.inl ⟨by rfl, ?_⟩) hHeld ?_
                rotate_left
                · intro w' hSw; try dsimp only at hSw
                  go_simp
                  try with_reducible rfl
                try simp only [puts, gets]
                refine any_take (by kernel_rfl) (i := 8) (oi := _) (v := ?_) rfl rfl (by kernel_rfl) (by kernel_rfl) (by kernel_rfl) (fun _ _ _ h => h) (Or.inl ⟨by rfl, ?_⟩) hHeld ?_
                rotate_left
                · intro w' hSw; try dsimp only at hSw
                  go_simp
                  try with_reducible rfl
                try simp only [puts, gets]
                refine any_take (by kernel_rfl) (i := 9) (oi := _) (v := ?_) rfl rfl (by kernel_rfl) (by kernel_rfl) (by kernel_rfl) (fun _ _ _ h => h) (Or.inl ⟨by rfl, ?_⟩) hHeld ?_
                rotate_left
                · intro w' hSw; try dsimp only at hSw
                  go_simp
                  try with_reducible rfl
                try simp only [puts, gets]
                refine any_take (by kernel_rfl) (i := 11) (oi := _) (v := ?_) rfl rfl (by kernel_rfl) (by kernel_rfl) (by kernel_rfl) (fun _ _ _ h => h) (Or.inl ⟨by rfl, ?_⟩) hHeld ?_
                rotate_left
                · intro w' hSw; try dsimp only at hSw
                  go_simp
                  try with_reducible rfl
                try simp only [puts, gets]
                refine any_take (by kernel_rfl) (i := 12) (oi := _) (v := ?_) rfl rfl (by kernel_rfl) (by kernel_rfl) (by kernel_rfl) (fun _ _ _ h => h) (Or.inl ⟨by rfl, ?_⟩) hHeld ?_
                rotate_left
                · intro w' hSw; try dsimp only at hSw
                  go_simp
                  try with_reducible rfl
                try simp only [puts, gets]
                refine any_take (by kernel_rfl) (i := 13) (oi := _) (v := ?_) rfl rfl (by kernel_rfl) (by kernel_rfl) (by kernel_rfl) (fun _ _ _ h => h) (Or.inl ⟨by rfl, ?_⟩) hHeld ?_
                rotate_left
                · intro w' hSw; try dsimp only at hSw
                  go_simp
                  try with_reducible rfl
                try simp only [puts, gets]
                refine any_take (by kernel_rfl) (i := 14) (oi := _) (v := ?_) rfl rfl (by kernel_rfl) (by kernel_rfl) (by kernel_rfl) (fun _ _ _ h => h) (Or.inl ⟨by rfl, ?_⟩) hHeld ?_
                rotate_left
                · intro w' hSw; try dsimp only at hSw
                  go_simp
                  try with_reducible rfl
                try simp only [puts, gets]
                refine any_next (i := 10) (by kernel_rfl) rfl rfl (fun K hK => ?_)
                go_simp
                go_at_call 16
                refine join_ts HCK (HAL.out _ (below_drew' (Below.refl _ _))) hxn hun HM1 ?_
                intro wq1 bq1
                replace bq1 : Below wi.heap.size wi wq1 := below_undrew bq1
                refine hK.out _ _ ?_ (fun hHeld => ?_)
                · exact HS5 _ bq1
                clear hK K
                try simp only [puts, gets]
                refine any_next (i := 15) (by kernel_rfl) rfl rfl (fun K hK => ?_)
                go_simp
                go_at_call 16
                refine join_ts HCK (HAL.out _ bq1) hlt hjl HM2 ?_
                intro wq2 bq2
                replace bq2 : Below wi.heap.size wi wq2 := below_trans bq1 bq2
                refine hK.out _ _ ?_ (fun hHeld => ?_)
                · exact HS5 _ bq2
                clear hK K
                try simp only [puts, gets]
                refine any_take (by kernel_rfl) (i := 16) (oi := _) (v := ?_) rfl rfl (by kernel_rfl) (by kernel_rfl) (by kernel_rfl) (fun _ _ _ h => h) (Or.inl ⟨by rfl, ?_⟩) hHeld ?_
                rotate_left
                · intro w' hSw; try dsimp only at hSw
                  go_simp
                  try with_reducible rfl
                try simp only [puts, gets]
                refine any_take (by kernel_rfl) (i := 17) (oi := _) (v := ?_) rfl rfl (by kernel_rfl) (by kernel_rfl) (by kernel_rfl) (fun _ _ _ h => h) (Or.inl ⟨by rfl, ?_⟩) hHeld ?_
                rotate_left
                · intro w' hSw; try dsimp only at hSw
                  go_simp
                  try with_reducible rfl
                try simp only [puts, gets]
                refine any_next (i := 18) (by kernel_rfl) rfl rfl (fun K hK => ?_)
                go_simp
                go_at_call 14
                refine leq_ts HCK (HAL.out _ bq2) hm1n hv2n HLQ ?_
                intro wq3 bq3
                replace bq3 : Below wi.heap.size wi wq3 := below_trans bq2 bq3
                refine hK.out _ _ ?_ (fun hHeld => ?_)
                · exact HS5 _ bq3
                clear hK K
                try simp only [puts, gets]
                refine any_take (by kernel_rfl) (i := 19) (oi := _) (v := ?_) rfl rfl (by kernel_rfl) (by kernel_rfl) (by kernel_rfl) (fun _ _ _ h => h) (Or.inl ⟨by rfl, ?_⟩) hHeld ?_
                rotate_left
                · intro w' hSw; try dsimp only at hSw
                  go_simp
                  try with_reducible rfl
                try simp only [puts, gets]
                refine any_done (by kernel_rfl) ?_ _
                refine NoPanic.normal ?_
                go_wp2
                go_meet
                case rel => exact ⟨rfl, bq3⟩
              case rest =>
                obtain ⟨rfl, bQ⟩ := hcut
                clear HS5 HAL
                have bI2 := below_trans bI bQ
                go_wp2
                go_roundw
                case rel => exact ⟨j + 1, by omega, by go_num, bI2⟩
                case measure => simp [intOf]; omega
            · have e : j = L.elems.length := by omega
              subst e
              have hdj : decide (L.elems.length < (castI f).length) = false := decide_eq_false (by omega)
              have bZ := b08.trans (bI.mono b08.size)
              have hO3 := hO9.keep bI
              go_wp2
              go_roundw
              case rel => exact ⟨k + 1, by omega, by go_num, by simpa [castI_length, comTo_len] using hO3, bZ⟩
              case measure => simp [intOf]; omega
        · have e : k = L.elems.length := by omega
          subst e
          have hdk : decide (L.elems.length < (castI f).length) = false := decide_eq_false (by omega)
          have hOI := hO.is (by omega)
          have HMO := Lib.hid (monoL_of HCK.out HLAT.out (l := comTo f q L.elems.length) (comTo_len _ _ _) (com_lt HFNf.out htfl HFNq.out htql) (com_mono HLAT.out.lt (HLAT.out.closed_mono HCLf.out) (HLAT.out.closed_mono HCLq.out)))
          obtain ⟨y0, y1, y2, y3⟩ := Box4.of (block_keep g0 bR)
          go_wp2_with fail
          refine (Mono_any _ L _ (castI (comTo f q L.elems.length)) _ (h0.keep (keeps_below (below_trans b0 bR))) hOI (hK.keep (keeps_below (below_trans b0 bR)))).mono ?_
          rintro e wf ⟨rfl, bN⟩
          rw [HMO.out]
          go_wp2
          go_ret
          exact ⟨rfl, below_trans (below_trans b0 bR) bN⟩
end Go.Proofs.YtkjlflmcojmfgaaDoor
