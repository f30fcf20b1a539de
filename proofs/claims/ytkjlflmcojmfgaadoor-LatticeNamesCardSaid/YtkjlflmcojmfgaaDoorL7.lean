/- The law LatticeIrreducible. -/
import Derived.Test.YtkjlflmcojmfgaaDoorPush
namespace Go.Proofs.YtkjlflmcojmfgaaDoor
open Go.RowKit
theorem OwnI.mono {w : World} {base base' : Nat} {v : Value} {l : List Int} (h : OwnI w base v l) (hb : base' ≤ base) : OwnI w base' v l := by
  refine ⟨h.1, ?_⟩
  rcases h.2 with h | ⟨g, cap, cur, e, a, b⟩
  · exact .inl h
  · exact .inr ⟨g, cap, cur, e, by omega, b⟩
def blw (o : Rl2) (R : List Nat) (a : Nat) : List Nat := R.filter fun x => o x a
def oth (o : Rl2) (R : List Nat) (a : Nat) : List Nat := R.filter fun x => o x a && decide (x ≠ a)
def isIn (R : List Nat) (a : Nat) : Bool := R.any fun x => decide (x = a)
theorem blw_snoc (o : Rl2) (R : List Nat) (x a : Nat) : blw o (R ++ [x]) a = if o x a = true then blw o R a ++ [x] else blw o R a := by
  unfold blw
  rw [List.filter_append]
  cases h : o x a <;> simp [h]
theorem oth_snoc (o : Rl2) (R : List Nat) (x a : Nat) : oth o (R ++ [x]) a = if (o x a && decide (x ≠ a)) = true then oth o R a ++ [x] else oth o R a := by
  unfold oth
  rw [List.filter_append, List.filter_cons, List.filter_nil]
  by_cases h : (o x a && decide (x ≠ a)) = true
  · rw [if_pos h, if_pos h]
  · rw [if_neg h, if_neg h, List.append_nil]
theorem isIn_snoc (R : List Nat) (x a : Nat) : isIn (R ++ [x]) a = (isIn R a || decide (x = a)) := by
  unfold isIn; rw [List.any_append]; simp
theorem irr_le (n : Nat) (o : Rl2) : (irr n o).length ≤ n := by
  unfold irr; exact Nat.le_trans (List.length_filter_le _ _) (by simp)
theorem blw_len (o : Rl2) (R : List Nat) (a : Nat) : (blw o R a).length ≤ R.length := List.length_filter_le _ _
theorem oth_len (o : Rl2) (R : List Nat) (a : Nat) : (oth o R a).length ≤ R.length := List.length_filter_le _ _
set_option maxHeartbeats 16000000 in
set_option maxRecDepth 100000 in
theorem law7_any (v : Value) (L : Ltc) (w : World) (h : IsLtc w v L) (hK : KeysAt w 0) : Calls Tryd.prog 7 #[v] w fun e w' => e = .returned (.bool true) ∧ Below w.heap.size w w' := by
  have h0 := h
  obtain ⟨ea, ec, ca, cc, rfl, -, -, m1, m2, m3⟩ := h.shape
  have g0 := heap_alloc_new w (.cells #[.string L.name.1, .slice ea L.elems.length ec, .slice ca L.covers.length cc, .int .i64 L.at_] 25)
  have b0 := below_new w (.cells #[.string L.name.1, .slice ea L.elems.length ec, .slice ca L.covers.length cc, .int .i64 L.at_] 25)
  obtain ⟨wb, hwb⟩ : ∃ x : World, x = w.alloc (.cells #[.string L.name.1, .slice ea L.elems.length ec, .slice ca L.covers.length cc, .int .i64 L.at_] 25) := ⟨_, rfl⟩
  rw [← hwb] at g0 b0
  obtain ⟨y0, y1, y2, y3⟩ := Box4.of g0
  go_enter Tryd.func7, Tryd.ntmps7
  go_wp2_with fail
  rw [← hwb]
  clear hwb y0 y1 y2 y3
  refine (head_any _ (hK.keep (keeps_below b0))).mono ?_
  rintro e w1 ⟨rfl, bN⟩
  replace g0 := block_keep g0 bN
  replace b0 := below_trans b0 bN
  clear bN
  obtain ⟨y0, y1, y2, y3⟩ := Box4.of g0
  go_wp2_with fail
  refine (Small_any _ L _ (h0.keep (keeps_below b0))).mono ?_
  rintro e w2 ⟨rfl, bN⟩
  replace g0 := block_keep g0 bN
  replace b0 := below_trans b0 bN
  clear bN y0 y1 y2 y3
  cases hsm : smallL L
  · go_wp2
    go_ret
    exact ⟨rfl, b0⟩
  clear hsm
  obtain ⟨y0, y1, y2, y3⟩ := Box4.of g0
  go_wp2_with fail
  refine (Check_any _ L _ (h0.keep (keeps_below b0)) (hK.keep (keeps_below b0))).mono ?_
  rintro e wB ⟨rfl, bN⟩
  replace g0 := block_keep g0 bN
  replace b0 := below_trans b0 bN
  clear bN y0 y1 y2 y3
  by_cases hck : checkL L = 0
  case neg =>
    have hq : (checkL L != 0) = true := by simpa using hck
    generalize checkL L = c at *
    go_wp2
    go_ret
    exact ⟨rfl, b0⟩
  have HCK := Lib.hid hck
  rw [hck]
  have hn8 := (args_parts (check_zero hck).1).1
  have hn1 := (args_parts (check_zero hck).1).2.1
  have HRG := Lib.hid (args_parts (check_zero hck).1).2.2.2
  have HLAT := Lib.hid (lat_ok hck)
  clear hck
  have bR := Below.refl wB.heap.size wB
  have HIL := Lib.hid (show irrL L = castI (irr L.elems.length (ordL L)) by unfold irrL; rw [if_pos HCK.out]; rfl)
  obtain ⟨y0, y1, y2, y3⟩ := Box4.of g0
  go_wp2_with fail
  refine (Irr_any _ L _ (h0.keep (keeps_below b0)) (hK.keep (keeps_below b0))).mono ?_
  rintro e wI ⟨ia, ic, rfl, ti, bN⟩
  rw [HIL.out] at ti ⊢
  clear y0 y1 y2 y3 bR
  replace g0 := block_keep g0 bN
  replace b0 := below_trans b0 bN
  clear bN
  obtain ⟨R, HR⟩ : ∃ R, Hid (irr L.elems.length (ordL L) = R) := ⟨_, Lib.hid rfl⟩
  have hRl : R.length ≤ L.elems.length := by rw [← HR.out]; exact irr_le _ _
  have HRN := Lib.hid (show ∀ x ∈ R, x < L.elems.length from fun x hx => by rw [← HR.out] at hx; exact (mem_irr.1 hx).1)
  rw [HR.out] at ti ⊢
  have hcl : (castI R).length ≤ R.length := by rw [castI_length]; exact Nat.le_refl _
  have hcl2 : R.length ≤ (castI R).length := by rw [castI_length]; exact Nat.le_refl _
  obtain ⟨y0, y1, y2, y3⟩ := Box4.of g0
  go_wp2
  clear y0 y1 y2 y3
  go_loopw [5] (fun i wr => ∃ a : Nat, a ≤ L.elems.length ∧ i = .int .i64 a ∧ Below wI.heap.size wI wr) (fun i _ => L.elems.length - (intOf i).toNat)
  case atStart => exact ⟨0, Nat.zero_le _, rfl, Below.refl _ _⟩
  case round =>
    obtain ⟨a, ha, rfl, bR⟩ := hrel
    obtain ⟨wo, rfl⟩ : ∃ wo : World, wo = wr := ⟨_, rfl⟩
    obtain ⟨y0, y1, y2, y3⟩ := Box4.of (block_keep g0 bR)
    by_cases hlta : a < L.elems.length
    · have hda : decide (a < L.elems.length) = true := decide_eq_true hlta
      have bE1 := below_new wo (.cells #[] 3)
      have bE2 := below_new (wo.alloc (.cells #[] 3)) (.cells #[] 3)
      have o1 : OwnI ((wo.alloc (.cells #[] 3)).alloc (.cells #[] 3)) wo.heap.size (.slice (some ⟨wo.heap.size, 0, none⟩) 0 0) (castI (blw (ordL L) (R.take 0) a)) := (OwnI.lit wo [] (by decide)).keep bE2
      have o2 : OwnI ((wo.alloc (.cells #[] 3)).alloc (.cells #[] 3)) wo.heap.size (.slice (some ⟨wo.heap.size + 1, 0, none⟩) 0 0) (castI (oth (ordL L) (R.take 0) a)) := by
        have := OwnI.mono (OwnI.lit (wo.alloc (.cells #[] 3)) [] (by decide)) bE1.size
        rwa [show (wo.alloc (.cells #[] 3)).heap.size = wo.heap.size + 1 from by simp] at this
      have d0 : Dis (.slice (some ⟨wo.heap.size, 0, none⟩) 0 0) (.slice (some ⟨wo.heap.size + 1, 0, none⟩) 0 0) := by
        have := dis_lits wo 3
        rwa [show (wo.alloc (.cells #[] 3)).heap.size = wo.heap.size + 1 from by simp] at this
      have b00 := below_trans bE1 bE2
      go_wp2
      clear y0 y1 y2 y3
      go_loopw [9, 6, 7, 8] (fun i bv ov is wr => ∃ (k : Nat) (isb : Bool), k ≤ R.length ∧ i = .int .i64 k ∧ OwnI wr wo.heap.size bv (castI (blw (ordL L) (R.take k) a)) ∧ OwnI wr wo.heap.size ov (castI (oth (ordL L) (R.take k) a)) ∧ Dis bv ov ∧ is = .bool isb ∧ Hid (isIn (R.take k) a = isb) ∧ Below wo.heap.size wo wr) (fun i _ _ _ _ => R.length - (intOf i).toNat)
      case atStart => exact ⟨0, _, Nat.zero_le _, rfl, o1, o2, d0, rfl, Lib.hid rfl, b00⟩
      case round =>
        clear o1 o2 d0 b00 bE1 bE2
        obtain ⟨k, isb, hk, rfl, hB, hO, hD, rfl, HI, bS⟩ := hrel
        obtain ⟨wp, rfl⟩ : ∃ wp : World, wp = wr := ⟨_, rfl⟩
        obtain ⟨ba, bc, rfl⟩ := hB.len
        obtain ⟨oa, oc, rfl⟩ := hO.len
        have hbl := blw_len (ordL L) (R.take k) a
        have hol := oth_len (ordL L) (R.take k) a
        have htl : (R.take k).length ≤ R.length := List.length_take_le' _ _
        have HB := Lib.hid hB
        have HO := Lib.hid hO
        clear hB hO
        have bT := below_trans bR bS
        by_cases hltk : k < R.length
        · have hdk : decide (k < (castI R).length) = true := decide_eq_true (by omega)
          have HT := Lib.hid (List.take_succ_eq_append_getElem hltk)
          have HM := Lib.hid (List.getElem_mem hltk)
          have hcr : (castI R)[k]? = some ((R[k] : Nat) : Int) := by unfold castI; rw [List.getElem?_map, List.getElem?_eq_getElem hltk]; rfl
          obtain ⟨b1, of1, hie, hc⟩ := ti.at_ hcr
          subst hie
          have hxn := HRN.out _ HM.out
          generalize R[k] = x at *
          clear hcr
          have hkI : (k : Int) < ((castI R).length : Int) := by omega
          have hk0 : (0 : Int) ≤ (k : Int) := by omega
          have hcp := cell_keep bT hc
          have HS : ∀ W, Below wp.heap.size wp W → (fun w' => w'.cell? ⟨w.heap.size, 0, none⟩ = some (.string L.name.1) ∧ w'.cell? ⟨w.heap.size, 1, none⟩ = some (.slice ea L.elems.length ec) ∧ w'.cell? ⟨w.heap.size, 2, none⟩ = some (.slice ca L.covers.length cc) ∧ w'.cell? ⟨w.heap.size, 3, none⟩ = some (.int .i64 L.at_) ∧ w'.cell? ⟨b1, of1 + k, none⟩ = some (.int .i64 x)) W := fun W hW => ⟨(Box4.of (block_keep g0 (below_trans bT hW))).c0, (Box4.of (block_keep g0 (below_trans bT hW))).c1, (Box4.of (block_keep g0 (below_trans bT hW))).c2, (Box4.of (block_keep g0 (below_trans bT hW))).c3, cell_keep hW hcp⟩
          have HAL := Lib.hid (fun W (hW : Below wp.heap.size wp W) => (⟨h0.keep (keeps_below (below_trans b0 (below_trans bT hW))), hK.keep (keeps_below (below_trans b0 (below_trans bT hW)))⟩ : IsLtc W _ L ∧ KeysAt W 0))
          go_upto_region 14 with fail
          go_cut [43] from 37 to 43 (fun v43 wx => v43 = .bool (ordL L x a) ∧ Below wp.heap.size wp wx)
          case first =>
            refine wp_region_noPanic ?_
            refine wp_region_late (fun w' => w'.cell? ⟨w.heap.size, 0, none⟩ = some (.string L.name.1) ∧ w'.cell? ⟨w.heap.size, 1, none⟩ = some (.slice ea L.elems.length ec) ∧ w'.cell? ⟨w.heap.size, 2, none⟩ = some (.slice ca L.covers.length cc) ∧ w'.cell? ⟨w.heap.size, 3, none⟩ = some (.int .i64 L.at_) ∧ w'.cell? ⟨b1, of1 + k, none⟩ = some (.int .i64 x)) 7 (by kernel_rfl) (HS _ (below_drew' (Below.refl _ _))) (fun hHeld => ?_)
            refine any_take (by kernel_rfl) (i := 0) (oi := _) (v := ?_) rfl rfl (by kernel_rfl) (by kernel_rfl) (by kernel_rfl) (fun _ _ _ h => h) (Or.inl ⟨by rfl, ?_⟩) hHeld ?_
            rotate_left
            · intro w' hSw; try dsimp only at hSw
              go_simp
              try with_reducible rfl
            try simp only [puts, gets]
            refine any_take (by kernel_rfl) (i := 1) (oi := _) (v := ?_) rfl rfl (by kernel_rfl) (by kernel_rfl) (by kernel_rfl) (fun _ _ _ h => h) (Or.inl ⟨by rfl, ?_⟩) hHeld ?_
            rotate_left
            · intro w' hSw; try dsimp only at hSw
              go_simp
              try with_reducible rfl
            try simp only [puts, gets]
            refine any_take (by kernel_rfl) (i := 2) (oi := _) (v := ?_) rfl rfl (by kernel_rfl) (by kernel_rfl) (by kernel_rfl) (fun _ _ _ h => h) (Or.inl ⟨by rfl, ?_⟩) hHeld ?_
            rotate_left
            · intro w' hSw; try dsimp only at hSw
              go_simp
              try with_reducible rfl
            try simp only [puts, gets]
            refine any_take (by kernel_rfl) (i := 3) (oi := _) (v := ?_) rfl rfl (by kernel_rfl) (by kernel_rfl) (by kernel_rfl) (fun _ _ _ h => h) (Or.inl ⟨by rfl, ?_⟩) hHeld ?_
            rotate_left
            · intro w' hSw; try dsimp only at hSw
              go_simp
              try with_reducible rfl
            try simp only [puts, gets]
            refine any_take (by kernel_rfl) (i := 4) (oi := _) (v := ?_) rfl rfl (by kernel_rfl) (by kernel_rfl) (by kernel_rfl) (fun _ _ _ h => h) (Or.inl ⟨by rfl, ?_⟩) hHeld ?_
            rotate_left
            · intro w' hSw; try dsimp only at hSw
              go_simp
              try with_reducible rfl
            try simp only [puts, gets]
            refine any_take (by kernel_rfl) (i := 5) (oi := _) (v := ?_) rfl rfl (by kernel_rfl) (by kernel_rfl) (by kernel_rfl) (fun _ _ _ h => h) (Or.inl ⟨by rfl, ?_⟩) hHeld ?_
            rotate_left
            · intro w' hSw; try dsimp only at hSw
              go_simp
              try with_reducible rfl
            try simp only [puts, gets]
            refine any_next (i := 6) (by kernel_rfl) rfl rfl (fun K hK => ?_)
            go_simp
            go_at_call 14
            refine leq_ts HCK (HAL.out _ (below_drew' (Below.refl _ _))) hxn hlta (Lib.hid rfl) ?_
            intro wq1 bq1
            replace bq1 : Below wp.heap.size wp wq1 := below_undrew bq1
            refine hK.out _ _ ?_ (fun hHeld => ?_)
            · exact HS _ bq1
            clear hK K
            refine any_done (by kernel_rfl) ?_ _
            refine NoPanic.normal ?_
            go_wp2
            go_meet
            case rel => exact ⟨rfl, bq1⟩
          case rest =>
            obtain ⟨rfl, bQ⟩ := hcut
            clear HS HAL
            have hB := HB.out.keep bQ
            have hO := HO.out.keep bQ
            have hcq := cell_keep bQ hcp
            have bSQ := below_trans bS bQ
            have hszq := bSQ.size
            clear hcp HB HO bT
            cases hox : ordL L x a
            · have HOX := Lib.hid hox
              clear hox
              by_cases hxa : x = a
              · have HXA := Lib.hid hxa
                have q1 : ((x : Int) == (a : Int)) = true := by simp [hxa]
                have q2 : (x == a) = true := by simp [hxa]
                have q3 : ((x : Int) != (a : Int)) = false := by simp [hxa]
                have q4 : (x != a) = false := by simp [hxa]
                clear hxa
                cases isb
                · go_wp2
                  go_roundw
                  case rel => exact ⟨k + 1, true, by omega, by go_num, by rw [HT.out, blw_snoc]; rw [if_neg (by rw [HOX.out]; decide)]; exact hB, by rw [HT.out, oth_snoc]; rw [if_neg (by rw [HOX.out]; simp)]; exact hO, hD, rfl, Lib.hid (by rw [HT.out, isIn_snoc, HI.out]; simp [HXA.out]), bSQ⟩
                  case measure => simp [intOf]; omega
                · go_wp2
                  go_roundw
                  case rel => exact ⟨k + 1, true, by omega, by go_num, by rw [HT.out, blw_snoc]; rw [if_neg (by rw [HOX.out]; decide)]; exact hB, by rw [HT.out, oth_snoc]; rw [if_neg (by rw [HOX.out]; simp)]; exact hO, hD, rfl, Lib.hid (by rw [HT.out, isIn_snoc, HI.out]; rfl), bSQ⟩
                  case measure => simp [intOf]; omega
              · have HXA := Lib.hid hxa
                have q1 : ((x : Int) == (a : Int)) = false := by simp; omega
                have q2 : (x == a) = false := by simp [hxa]
                have q3 : ((x : Int) != (a : Int)) = true := by simp; omega
                have q4 : (x != a) = true := by simp [hxa]
                clear hxa
                cases isb
                · go_wp2
                  go_roundw
                  case rel => exact ⟨k + 1, false, by omega, by go_num, by rw [HT.out, blw_snoc]; rw [if_neg (by rw [HOX.out]; decide)]; exact hB, by rw [HT.out, oth_snoc]; rw [if_neg (by rw [HOX.out]; simp)]; exact hO, hD, rfl, Lib.hid (by rw [HT.out, isIn_snoc, HI.out]; simp [HXA.out]), bSQ⟩
                  case measure => simp [intOf]; omega
                · go_wp2
                  go_roundw
                  case rel => exact ⟨k + 1, true, by omega, by go_num, by rw [HT.out, blw_snoc]; rw [if_neg (by rw [HOX.out]; decide)]; exact hB, by rw [HT.out, oth_snoc]; rw [if_neg (by rw [HOX.out]; simp)]; exact hO, hD, rfl, Lib.hid (by rw [HT.out, isIn_snoc, HI.out]; rfl), bSQ⟩
                  case measure => simp [intOf]; omega
            · have HOX := Lib.hid hox
              clear hox
              by_cases hxa : x = a
              · have HXA := Lib.hid hxa
                have q1 : ((x : Int) == (a : Int)) = true := by simp [hxa]
                have q2 : (x == a) = true := by simp [hxa]
                have q3 : ((x : Int) != (a : Int)) = false := by simp [hxa]
                have q4 : (x != a) = false := by simp [hxa]
                clear hxa
                have hlb : (castI (blw (ordL L) (R.take k) a)).length ≤ 1000000 := by rw [castI_length]; omega
                have hlo : (castI (oth (ordL L) (R.take k) a)).length ≤ 1000000 := by rw [castI_length]; omega
                go_upto_region 16 with (at_builtin; refine wpList_pushJ (wr := wc) (x := (x : Int)) (g1 := wc.heap.size) rfl (.tmp 44) (.tmp 49) rfl rfl rfl hB (below_new _ _) (heap_alloc_new wc _) hszq hlb ?_; intro g1 cap1 w8 hB8 b8 hg8 hd8)
                have hO8 := hO.kept hg8 (fun k hk e => hD k e hk)
                have hD8 := Dis.pushed (n := (castI (blw (ordL L) (R.take k) a)).length + 1) (c := cap1) hD hO hd8
                rw [← castI_snoc] at hB8
                have b08 := bSQ.trans b8
                have hsz8 := b08.size
                have hc8 : w8.cell? ⟨b1, of1 + k, none⟩ = some (.int .i64 x) := (b8.cell (by have h1 := cell_lt hc; have h2 := bR.size; exact Nat.lt_of_lt_of_le h1 h2)).trans hcq
                cases isb
                · go_wp2
                  go_roundw
                  case rel => exact ⟨k + 1, true, by omega, by go_num, by rw [HT.out, blw_snoc]; rw [if_pos HOX.out]; simpa [castI_length] using hB8, by rw [HT.out, oth_snoc]; rw [if_neg (by simp [HXA.out])]; exact hO8, hD8, rfl, Lib.hid (by rw [HT.out, isIn_snoc, HI.out]; simp [HXA.out]), b08⟩
                  case measure => simp [intOf]; omega
                · go_wp2
                  go_roundw
                  case rel => exact ⟨k + 1, true, by omega, by go_num, by rw [HT.out, blw_snoc]; rw [if_pos HOX.out]; simpa [castI_length] using hB8, by rw [HT.out, oth_snoc]; rw [if_neg (by simp [HXA.out])]; exact hO8, hD8, rfl, Lib.hid (by rw [HT.out, isIn_snoc, HI.out]; rfl), b08⟩
                  case measure => simp [intOf]; omega
              · have HXA := Lib.hid hxa
                have q1 : ((x : Int) == (a : Int)) = false := by simp; omega
                have q2 : (x == a) = false := by simp [hxa]
                have q3 : ((x : Int) != (a : Int)) = true := by simp; omega
                have q4 : (x != a) = true := by simp [hxa]
                clear hxa
                have hlb : (castI (blw (ordL L) (R.take k) a)).length ≤ 1000000 := by rw [castI_length]; omega
                have hlo : (castI (oth (ordL L) (R.take k) a)).length ≤ 1000000 := by rw [castI_length]; omega
                go_upto_region 16 with (at_builtin; refine wpList_pushJ (wr := wc) (x := (x : Int)) (g1 := wc.heap.size) rfl (.tmp 44) (.tmp 49) rfl rfl rfl hB (below_new _ _) (heap_alloc_new wc _) hszq hlb ?_; intro g1 cap1 w8 hB8 b8 hg8 hd8)
                have hO8 := hO.kept hg8 (fun k hk e => hD k e hk)
                have hD8 := Dis.pushed (n := (castI (blw (ordL L) (R.take k) a)).length + 1) (c := cap1) hD hO hd8
                rw [← castI_snoc] at hB8
                have b08 := bSQ.trans b8
                have hsz8 := b08.size
                have hc8 : w8.cell? ⟨b1, of1 + k, none⟩ = some (.int .i64 x) := (b8.cell (by have h1 := cell_lt hc; have h2 := bR.size; exact Nat.lt_of_lt_of_le h1 h2)).trans hcq
                cases isb
                · go_upto_region 18 with (at_builtin; refine wpList_pushJ (wr := w8) (x := (x : Int)) (g1 := w8.heap.size) rfl (.tmp 57) (.tmp 62) rfl rfl rfl hO8 (below_new _ _) (heap_alloc_new w8 _) hsz8 hlo ?_; intro g2 cap2 w9 hO9 b9 hg9 hd9)
                  have hc9 : w9.cell? ⟨b1, of1 + k, none⟩ = some (.int .i64 x) := (b9.cell (by have h1 := cell_lt hc; have h2 := bR.size; exact Nat.lt_of_lt_of_le h1 h2)).trans hc8
                  have hB9 := hB8.kept hg9 (fun k hk e => hD8 k hk e)
                  have hD9 := (Dis.pushed (n := (castI (oth (ordL L) (R.take k) a)).length + 1) (c := cap2) hD8.symm hB8 hd9).symm
                  rw [← castI_snoc] at hO9
                  have b09 := b08.trans b9
                  go_wp2
                  go_roundw
                  case rel => exact ⟨k + 1, false, by omega, by go_num, by rw [HT.out, blw_snoc, if_pos HOX.out]; simpa [castI_length] using hB9, by rw [HT.out, oth_snoc, if_pos (by rw [HOX.out, decide_eq_true HXA.out]; rfl)]; simpa [castI_length] using hO9, hD9, rfl, Lib.hid (by rw [HT.out, isIn_snoc, HI.out]; simp [HXA.out]), b09⟩
                  case measure => simp [intOf]; omega
                · go_upto_region 18 with (at_builtin; refine wpList_pushJ (wr := w8) (x := (x : Int)) (g1 := w8.heap.size) rfl (.tmp 57) (.tmp 62) rfl rfl rfl hO8 (below_new _ _) (heap_alloc_new w8 _) hsz8 hlo ?_; intro g2 cap2 w9 hO9 b9 hg9 hd9)
                  have hc9 : w9.cell? ⟨b1, of1 + k, none⟩ = some (.int .i64 x) := (b9.cell (by have h1 := cell_lt hc; have h2 := bR.size; exact Nat.lt_of_lt_of_le h1 h2)).trans hc8
                  have hB9 := hB8.kept hg9 (fun k hk e => hD8 k hk e)
                  have hD9 := (Dis.pushed (n := (castI (oth (ordL L) (R.take k) a)).length + 1) (c := cap2) hD8.symm hB8 hd9).symm
                  rw [← castI_snoc] at hO9
                  have b09 := b08.trans b9
                  go_wp2
                  go_roundw
                  case rel => exact ⟨k + 1, true, by omega, by go_num, by rw [HT.out, blw_snoc, if_pos HOX.out]; simpa [castI_length] using hB9, by rw [HT.out, oth_snoc, if_pos (by rw [HOX.out, decide_eq_true HXA.out]; rfl)]; simpa [castI_length] using hO9, hD9, rfl, Lib.hid (by rw [HT.out, isIn_snoc, HI.out]; rfl), b09⟩
                  case measure => simp [intOf]; omega
        · have e : k = R.length := by omega
          subst e
          have hdk : decide (R.length < (castI R).length) = false := decide_eq_false (by omega)
          rw [List.take_length] at HB HO HI hbl hol ⊢
          have hBI := HB.out.is (by rw [castI_length]; omega)
          have hOI := HO.out.is (by rw [castI_length]; omega)
          have HLB := Lib.hid (HLAT.out.lub_eq (HLAT.out.irr_lub hlta (L := blw (ordL L) R a) fun b => by unfold blw; rw [List.mem_filter, ← HR.out]))
          have HNB := Lib.hid (show ∀ x ∈ blw (ordL L) R a, x < L.elems.length from fun x hx => HRN.out x (List.mem_filter.1 hx).1)
          have HNO := Lib.hid (show ∀ x ∈ oth (ordL L) R a, x < L.elems.length from fun x hx => HRN.out x (List.mem_filter.1 hx).1)
          replace bR := bT
          clear bT
          have jj : ((a : Int) != (a : Int)) = false := by simp
          obtain ⟨y0, y1, y2, y3⟩ := Box4.of (block_keep g0 bR)
          cases isb
          · skip
            go_wp2_with fail
            refine (lub_at (l := blw (ordL L) R a) (h0.keep (keeps_below (below_trans b0 bR))) hBI (hK.keep (keeps_below (below_trans b0 bR))) HCK HNB.out).mono ?_
            rintro e wz ⟨rfl, bN⟩
            rw [HLB.out]
            clear y0 y1 y2 y3
            go_wp2
            go_roundw
            case rel => exact ⟨a + 1, by omega, by go_num, below_trans bR bN⟩
            case measure => simp [intOf]; omega
          · skip
            go_wp2_with fail
            refine (lub_at (l := blw (ordL L) R a) (h0.keep (keeps_below (below_trans b0 bR))) hBI (hK.keep (keeps_below (below_trans b0 bR))) HCK HNB.out).mono ?_
            rintro e wz ⟨rfl, bN⟩
            rw [HLB.out]
            clear y0 y1 y2 y3
            have HIR : a ∈ irr L.elems.length (ordL L) := by
              have := HI.out
              unfold isIn at this
              rw [List.any_eq_true] at this
              obtain ⟨x, hx, e⟩ := this
              rw [HR.out, ← of_decide_eq_true e]; exact hx
            obtain ⟨m, HM⟩ : ∃ m, Hid (lub L.elems.length (ordL L) (oth (ordL L) R a) = m) := ⟨_, Lib.hid rfl⟩
            have hma : (m == (a : Int)) = false := ne_beq (by
              rw [← HM.out]
              exact HLAT.out.irr_others HIR fun b => by unfold oth; rw [List.mem_filter, ← HR.out]; simp)
            clear HIR
            obtain ⟨y0, y1, y2, y3⟩ := Box4.of (block_keep g0 (below_trans bR bN))
            go_wp2_with fail
            refine (lub_at (l := oth (ordL L) R a) (h0.keep (keeps_below (below_trans b0 (below_trans bR bN)))) (hOI.keep (keeps_below bN)) (hK.keep (keeps_below (below_trans b0 (below_trans bR bN)))) HCK HNO.out).mono ?_
            rintro e wz2 ⟨rfl, bN2⟩
            rw [HM.out]
            replace bN := below_trans bN bN2
            clear bN2 y0 y1 y2 y3
            go_wp2
            go_roundw
            case rel => exact ⟨a + 1, by omega, by go_num, below_trans bR bN⟩
            case measure => simp [intOf]; omega
    · have e : a = L.elems.length := by omega
      subst e
      have hda : decide (L.elems.length < L.elems.length) = false := decide_eq_false hlta
      go_wp2
      go_ret
      exact ⟨rfl, below_trans b0 bR⟩
end Go.Proofs.YtkjlflmcojmfgaaDoor
