/- The walk of the law TrieInverse. -/
import Derived.Test.YtdibijhaiaiifaaDoorJ31
import Derived.Test.YtdibijhaiaiifaaDoorJ30
namespace Go.Proofs.YtdibijhaiaiifaaDoor
open Go.RowKit
theorem Hold.offs' {w w' : World} {m : List RR} {v : Value} {out : List RR} {wr : World} {base : Nat} (H : Hold 2 44 encR RowOk noB wr base v out) (hr : ∀ r ∈ m, RowOk w r) (hb : Below w.heap.size w w') (hw : base = w.heap.size) : ∀ u ∈ m, Off RowOk w' (Ex v noB) u := fun u hu => by
  refine Off.old (w := w) (fun a b => rowOk_keep a b _) (hr u hu) hb fun k hk => ?_
  rcases hk with hk | hk
  · rw [← hw]; exact (H.1.lt k hk).1
  · exact hk.elim
set_option maxHeartbeats 16000000 in
set_option maxRecDepth 1000000 in
theorem law12_any (columns : Int) (va : Value) (r : TR) (xs : List RR) (w : World) (hT : Tab w) (ha : IsRel w va xs) (hr : TrOk w r) (hw' : Wide r.tr) : Calls Tryd.prog 12 #[.int .i64 columns, va, trV r] w fun e w' => e = .returned (.bool true) ∧ Below w.heap.size w w' := by
  have hw := Lib.hid hw'
  clear hw'
  obtain ⟨pa, ca, rfl, -⟩ := ha.shape
  have HSM := fun W h => Small_any r W h hw.out
  unfold trV at HSM
  unfold trV
  have CR := Cel.new w 64 [r.vv, r.kv, r.wv]
  have bN := below_new w (.cells #[r.vv, r.kv, r.wv] 64)
  go_enter Tryd.func12, Tryd.ntmps12
  go_upto_region 1 with fail
  obtain ⟨w9, hw9⟩ : ∃ zz, w.alloc (.cells #[r.vv, r.kv, r.wv] 64) = zz := ⟨_, rfl⟩
  replace CR : Cel w9 w.heap.size 64 [r.vv, r.kv, r.wv] := by rw [← hw9]; exact CR
  rw [hw9] at bN
  try rw [hw9]
  clear hw9
  obtain ⟨b5, hb5⟩ : ∃ g, w.heap.size = g := ⟨_, rfl⟩
  have HB5 := Lib.hid hb5
  rw [hb5] at CR
  try rw [hb5]
  clear hb5
  have B1 : Below w.heap.size w w9 := bN
  replace hT := hT.keep bN
  replace ha := ha.keep bN
  replace hr := hr.keep bN
  clear bN
  have r0 := CR.at_ (j := 0) rfl
  have r1 := CR.at_ (j := 1) rfl
  have r2 := CR.at_ (j := 2) rfl
  go_wp2_with fail
  refine (thead_any _ hT).mono ?_
  rintro e w1 ⟨rfl, bN⟩
  replace hT := hT.keep bN
  replace ha := ha.keep bN
  replace hr := hr.keep bN
  replace CR := CR.keep bN
  replace r0 := CR.at_ (j := 0) rfl
  replace r1 := CR.at_ (j := 1) rfl
  replace r2 := CR.at_ (j := 2) rfl
  replace B1 := below_trans B1 bN
  clear bN
  go_wp2_with fail
  refine (fewR_any _ xs _ ha).mono ?_
  rintro e w2 ⟨rfl, bN⟩
  replace hT := hT.keep bN
  replace ha := ha.keep bN
  replace hr := hr.keep bN
  replace CR := CR.keep bN
  replace r0 := CR.at_ (j := 0) rfl
  replace r1 := CR.at_ (j := 1) rfl
  replace r2 := CR.at_ (j := 2) rfl
  replace B1 := below_trans B1 bN
  clear bN
  cases hf : fewR xs
  · clear hf
    go_wp2
    go_ret
    exact ⟨rfl, B1⟩
  have HX4 := Lib.hid (fewR_sml hf)
  have HX := Lib.hid ((fewR_sml hf).mono (m := 10000) (by decide))
  clear hf
  go_wp2_with fail
  refine (HSM _ hr).mono ?_
  rintro e w2 ⟨b, rfl, HS, bN⟩
  clear HSM
  replace hT := hT.keep bN
  replace ha := ha.keep bN
  replace hr := hr.keep bN
  replace CR := CR.keep bN
  replace r0 := CR.at_ (j := 0) rfl
  replace r1 := CR.at_ (j := 1) rfl
  replace r2 := CR.at_ (j := 2) rfl
  replace B1 := below_trans B1 bN
  clear bN
  cases b with
  | false =>
    go_wp2
    go_ret
    exact ⟨rfl, B1⟩
  | true =>
    replace HS := Lib.hid (HS.out rfl)
    by_cases hc : 0 ≤ columns ∧ columns ≤ 4
    case neg =>
      by_cases hd1 : columns < 0
      · clear hc
        go_wp2
        go_ret
        exact ⟨rfl, B1⟩
      · have hd2 : 4 < columns := by omega
        clear hc
        go_wp2
        go_ret
        exact ⟨rfl, B1⟩
    obtain ⟨hc0, hc4⟩ := hc
    have hd1 : ¬ columns < 0 := by omega
    have hd2 : ¬ 4 < columns := by omega
    go_wp2_with fail
    refine (TBuild_any _ columns xs _ hT ha HX.out).mono ?_
    rintro e wx ⟨x, rfl, hx, HBX, bN⟩
    unfold trV
    replace hT := hT.keep bN
    replace ha := ha.keep bN
    replace hr := hr.keep bN
    replace CR := CR.keep bN
    replace r0 := CR.at_ (j := 0) rfl
    replace r1 := CR.at_ (j := 1) rfl
    replace r2 := CR.at_ (j := 2) rfl
    replace B1 := below_trans B1 bN
    clear bN
    have CX := Cel.new wx 64 [x.vv, x.kv, x.wv]
    have bN := below_new wx (.cells #[x.vv, x.kv, x.wv] 64)
    go_upto_region 5 with fail
    obtain ⟨wb8, hw⟩ : ∃ zz, wx.alloc (.cells #[x.vv, x.kv, x.wv] 64) = zz := ⟨_, rfl⟩
    replace CX : Cel wb8 wx.heap.size 64 [x.vv, x.kv, x.wv] := by rw [← hw]; exact CX
    rw [hw] at bN
    try rw [hw]
    clear hw
    obtain ⟨b8, hb⟩ : ∃ g, wx.heap.size = g := ⟨_, rfl⟩
    rw [hb] at CX
    try rw [hb]
    clear hb
    replace hT := hT.keep bN
    replace ha := ha.keep bN
    replace hr := hr.keep bN
    replace hx := hx.keep bN
    replace CR := CR.keep bN
    replace r0 := CR.at_ (j := 0) rfl
    replace r1 := CR.at_ (j := 1) rfl
    replace r2 := CR.at_ (j := 2) rfl
    replace B1 := below_trans B1 bN
    clear bN
    have cx0 := CX.at_ (j := 0) rfl
    have cx1 := CX.at_ (j := 1) rfl
    have cx2 := CX.at_ (j := 2) rfl
    go_wp2_with fail
    refine (UnionR_any _ _ xs [] _ hT ha (IsRel.nil _) HX.out (Sml.nil _)).mono ?_
    rintro e wu ⟨u, rfl, us, RU, OU, bN⟩
    have HU := Lib.hid OU
    have hul : us.length ≤ 10000 := Nat.le_trans (OU.sml _ _ HX4.out (Sml.nil 0)).len (by decide)
    replace RU := RU.rel
    clear OU
    replace hT := hT.keep bN
    replace ha := ha.keep bN
    replace hr := hr.keep bN
    replace hx := hx.keep bN
    replace CR := CR.keep bN
    replace r0 := CR.at_ (j := 0) rfl
    replace r1 := CR.at_ (j := 1) rfl
    replace r2 := CR.at_ (j := 2) rfl
    replace CX := CX.keep bN
    replace cx0 := CX.at_ (j := 0) rfl
    replace cx1 := CX.at_ (j := 1) rfl
    replace cx2 := CX.at_ (j := 2) rfl
    replace B1 := below_trans B1 bN
    clear bN
    obtain ⟨pu, cu, rfl, -⟩ := id RU.shape
    obtain ⟨nz, hnz⟩ : ∃ n, us.length = n := ⟨_, rfl⟩
    rw [hnz] at RU hul
    rw [hnz]
    have HNZ := Lib.hid hnz
    clear hnz
    have B0 := below_new wu (.cells #[] 44)
    have H0 : Hold 2 44 encR RowOk noB (wu.alloc (.cells #[] 44)) wu.heap.size (.slice (some ⟨wu.heap.size, 0, none⟩) 0 0) [] := ⟨Owns.lit wu, by simp⟩
    go_upto_region 7 with fail
    obtain ⟨pz, hpz⟩ : ∃ p : Option Addr, some ⟨wu.heap.size, 0, none⟩ = p := ⟨_, rfl⟩
    rw [hpz] at H0
    rw [hpz]
    clear hpz
    obtain ⟨wl, hwl⟩ : ∃ z, wu.alloc (.cells #[] 44) = z := ⟨_, rfl⟩
    rw [hwl] at H0 B0
    rw [hwl]
    clear hwl
    go_wp2
    go_loopg [10, 11] nz (fun g v10 vi wr => ∃ (i : Nat) (L : List RR), vi = .int .i64 i ∧ i ≤ nz ∧ nz - i ≤ g ∧ Hold 2 44 encR RowOk noB wr wu.heap.size v10 L ∧ Hid (rows L = ((rows us).take i).filter fun x => decide ((x.1.length : Int) = columns)) ∧ Below wu.heap.size wu wr)
    case atStart => exact ⟨0, [], rfl, Nat.zero_le _, Nat.le_refl _, H0, Lib.hid rfl, B0⟩
    case round =>
      obtain ⟨i, L, rfl, hi, hg, H, V, B⟩ := hrel
      clear H0 B0
      obtain ⟨p10, c10, rfl⟩ := H.form
      have hLl : L.length ≤ i := by
        rw [← rows_length L, V.out]
        exact Nat.le_trans (List.length_filter_le _ _) (by rw [List.length_take]; omega)
      by_cases hlt : i < nz
      · have hltz : (i : Int) < (nz : Int) := by omega
        obtain ⟨z, hz⟩ := getElem_of_lt (l := us) (i := i) (by have := HNZ.out; omega)
        obtain ⟨b2, o2, e, d0, d1, rx⟩ := (RU.keep B).at_ hz
        cases e
        have HRZ := Lib.hid (show RowOk wu z from RU.2 z (List.mem_of_getElem? hz))
        have VN := Lib.hid (show ∀ q, decide ((z.t.length : Int) = columns) = q → ((rows us).take (i + 1)).filter (fun x => decide ((x.1.length : Int) = columns)) = rows L ++ (if q then [z.rw] else []) from fun q hq => by
          rw [take_succ' (rows_at hz), List.filter_append, V.out, List.filter_cons]
          show _ ++ (if decide ((z.t.length : Int) = columns) = true then _ else _) = _
          rw [hq]
          cases q <;> rfl)
        clear hz rx
        by_cases hc : (z.t.length : Int) = columns
        · have hcb : ((z.t.length : Int) == columns) = true := by rw [beq_iff_eq]; exact hc
          have V2 := Lib.hid (VN.out true (decide_eq_true hc))
          have bX := below_new wr (.cells #[z.av, z.wv] 44)
          have hm : IsRows 2 encR (wr.alloc (.cells #[z.av, z.wv] 44)) (.slice (some ⟨wr.heap.size, 0, none⟩) 1 1) [z] := IsRows.lit wr [z] encsR (by simp)
          have hmo : ∀ u ∈ [z], Off RowOk (wr.alloc (.cells #[z.av, z.wv] 44)) (Ex (.slice p10 L.length c10) noB) u := H.offs' (fun u hu => by rw [List.mem_singleton.1 hu]; exact HRZ.out) (B.trans (bX.mono B.size)) rfl
          clear hc VN
          go_wp2_with (at_builtin; refine wpList_holdU fitsR24 encsR rfl _ _ rfl rfl rfl H bX hm hmo B.size (by omega) (by simp) ?_; intro p9 c9 w9 H9 B9 hG9 hU9; rw [show (L ++ [z]).length = L.length + 1 from by simp] at H9 hU9)
          have B10 := B.trans B9
          clear H hm hmo bX hG9 hU9 B9 d0 d1
          go_roundg (nz - (i + 1))
          case measure => omega
          case rel => exact ⟨i + 1, L ++ [z], by go_num, hlt, Nat.le_refl _, H9, by rw [rows_append]; exact Lib.hid V2.out.symm, B10⟩
        · have hcb : ((z.t.length : Int) == columns) = false := by rw [beq_eq_false_iff_ne]; exact hc
          have V2 := Lib.hid (VN.out false (decide_eq_false hc))
          clear hc VN
          go_wp2
          go_roundg (nz - (i + 1))
          case measure => omega
          case rel => exact ⟨i + 1, L, by go_num, hlt, Nat.le_refl _, H, by have := V2.out; simp only [Bool.false_eq_true, if_false, List.append_nil] at this; exact Lib.hid this.symm, B⟩
      · have hltz : ¬ (i : Int) < (nz : Int) := by omega
        have RES := Lib.hid (show rowsT columns x.tr = rows L from rows_built hc0 hc4 HBX.out HU.out (by
          have := V.out
          rwa [List.take_of_length_le (by rw [rows_length, HNZ.out]; omega)] at this))
        have RL := H.rel (by omega)
        clear H V hg
        have bN := B
        clear B
        replace hT := hT.keep bN
        replace ha := ha.keep bN
        replace hr := hr.keep bN
        replace hx := hx.keep bN
        replace RU := RU.keep bN
        replace CR := CR.keep bN
        replace r0 := CR.at_ (j := 0) rfl
        replace r1 := CR.at_ (j := 1) rfl
        replace r2 := CR.at_ (j := 2) rfl
        replace CX := CX.keep bN
        replace cx0 := CX.at_ (j := 0) rfl
        replace cx1 := CX.at_ (j := 1) rfl
        replace cx2 := CX.at_ (j := 2) rfl
        replace B1 := below_trans B1 bN
        clear bN
        have hV := fun W h1 h2 => TValid_any columns x W h1 h2 (built_facts HBX.out HX.out).2.2.2
        unfold trV at hV
        rw [validC_built hc0 hc4 HBX.out] at hV
        go_wp2_with fail
        refine (hV _ hT hx).mono ?_
        rintro e wv ⟨rfl, bN⟩
        clear hV
        replace hT := hT.keep bN
        replace ha := ha.keep bN
        replace hr := hr.keep bN
        replace hx := hx.keep bN
        replace RU := RU.keep bN
        replace RL := RL.keep bN
        replace CR := CR.keep bN
        replace r0 := CR.at_ (j := 0) rfl
        replace r1 := CR.at_ (j := 1) rfl
        replace r2 := CR.at_ (j := 2) rfl
        replace CX := CX.keep bN
        replace cx0 := CX.at_ (j := 0) rfl
        replace cx1 := CX.at_ (j := 1) rfl
        replace cx2 := CX.at_ (j := 2) rfl
        replace B1 := below_trans B1 bN
        clear bN
        have hRW := fun W h1 h2 => TRows_any columns x W h1 h2 (built_facts HBX.out HX.out).2.2.2 (by rw [RES.out, rows_length]; omega)
        unfold trV at hRW
        go_wp2_with fail
        refine (hRW _ hT hx).mono ?_
        rintro e wq ⟨u1, l1, rfl, HL1, HE1, bN⟩
        clear hRW
        have R1 := HL1.rel (by have := congrArg List.length HE1.out; rw [rows_length, RES.out, rows_length] at this; omega)
        clear HL1
        replace hT := hT.keep bN
        replace ha := ha.keep bN
        replace hr := hr.keep bN
        replace hx := hx.keep bN
        replace RU := RU.keep bN
        replace RL := RL.keep bN
        replace CR := CR.keep bN
        replace r0 := CR.at_ (j := 0) rfl
        replace r1 := CR.at_ (j := 1) rfl
        replace r2 := CR.at_ (j := 2) rfl
        replace CX := CX.keep bN
        replace cx0 := CX.at_ (j := 0) rfl
        replace cx1 := CX.at_ (j := 1) rfl
        replace cx2 := CX.at_ (j := 2) rfl
        replace B1 := below_trans B1 bN
        clear bN
        go_wp2_with fail
        refine (rSameR_any _ _ l1 L _ R1 RL).mono ?_
        rintro e ws ⟨rfl, bN⟩
        rw [decide_eq_true (HE1.out.trans RES.out)]
        replace hT := hT.keep bN
        replace ha := ha.keep bN
        replace hr := hr.keep bN
        replace hx := hx.keep bN
        replace RU := RU.keep bN
        replace RL := RL.keep bN
        replace R1 := R1.keep bN
        replace CR := CR.keep bN
        replace r0 := CR.at_ (j := 0) rfl
        replace r1 := CR.at_ (j := 1) rfl
        replace r2 := CR.at_ (j := 2) rfl
        replace CX := CX.keep bN
        replace cx0 := CX.at_ (j := 0) rfl
        replace cx1 := CX.at_ (j := 1) rfl
        replace cx2 := CX.at_ (j := 2) rfl
        replace B1 := below_trans B1 bN
        clear bN
        clear R1 RL HE1 RES
        obtain ⟨v, hv⟩ : ∃ v, validC columns r.tr = v := ⟨_, rfl⟩
        have HV := Lib.hid hv
        have hV := fun W h1 h2 => TValid_any columns r W h1 h2 (small_lim HS.out)
        rw [hv] at hV
        have hRW := fun W h1 h2 => TRows_any columns r W h1 h2 (small_lim HS.out) (Nat.le_trans (small_rows HS.out columns) (by decide))
        have hSM := fun W t h1 h2 => same_all 8 (by decide) t r W h1 h2
        unfold trV at hV hRW hSM
        clear hv
        have HALL : ∀ W, Below ws.heap.size ws W → (fun w' => w'.cell? ⟨b5, 0, none⟩ = some r.vv ∧ w'.cell? ⟨b5, 1, none⟩ = some r.kv ∧ w'.cell? ⟨b5, 2, none⟩ = some r.wv) W := fun W hW => ⟨cell_keep hW r0, cell_keep hW r1, cell_keep hW r2⟩
        go_upto_region 14 with fail
        try simp only [List.append_eq, List.cons_append, List.nil_append]
        cases v with
        | false =>
          refine wp_region_noPanic ?_
          refine wp_region_late (fun w' => w'.cell? ⟨b5, 0, none⟩ = some r.vv ∧ w'.cell? ⟨b5, 1, none⟩ = some r.kv ∧ w'.cell? ⟨b5, 2, none⟩ = some r.wv) 17 (by kernel_rfl) (HALL _ (Below.refl _ _).drew) (fun _ => ?_)
          obtain ⟨wd, hwd⟩ : ∃ x : World, ws.drew = x := ⟨_, rfl⟩
          have bD : Below ws.heap.size ws wd := by rw [← hwd]; exact (Below.refl _ _).drew
          rw [hwd]
          clear hwd
          have hHeld := HALL _ bD
          refine any_take (by kernel_rfl) (i := 0) (oi := _) (v := ?_) rfl rfl (by kernel_rfl) (by kernel_rfl) (by kernel_rfl) (fun _ _ _ h => h) (Or.inl ⟨by rfl, ?_⟩) hHeld ?_
          rotate_left
          · intro w' hSw; try dsimp only at hSw
            go_simp
            try with_reducible rfl
          try simp only [puts, gets]
          refine any_take (by kernel_rfl) (i := 1) (oi := _) (v := ?_) rfl rfl (by kernel_rfl) (by kernel_rfl) (by kernel_rfl) (fun _ _ _ h => h) (Or.inl ⟨by rfl, ?_⟩) hHeld ?_
          rotate_left
          · intro w' hSw; try dsimp only at hSw
            go_simp
            try with_reducible rfl
          try simp only [puts, gets]
          refine any_take (by kernel_rfl) (i := 2) (oi := _) (v := ?_) rfl rfl (by kernel_rfl) (by kernel_rfl) (by kernel_rfl) (fun _ _ _ h => h) (Or.inl ⟨by rfl, ?_⟩) hHeld ?_
          rotate_left
          · intro w' hSw; try dsimp only at hSw
            go_simp
            try with_reducible rfl
          try simp only [puts, gets]
          refine any_take (by kernel_rfl) (i := 3) (oi := _) (v := ?_) rfl rfl (by kernel_rfl) (by kernel_rfl) (by kernel_rfl) (fun _ _ _ h => h) (Or.inl ⟨by rfl, ?_⟩) hHeld ?_
          rotate_left
          · intro w' hSw; try dsimp only at hSw
            go_simp
            try with_reducible rfl
          try simp only [puts, gets]
          refine any_next (i := 4) (by kernel_rfl) rfl rfl (fun K hK => ?_)
          go_simp
          go_at_call 60
          refine (hV _ (hT.keep bD) (hr.keep bD)).mono ?_
          rintro e wr1 ⟨rfl, bC⟩
          replace bD := below_trans bD bC
          clear bC
          refine hK.out _ _ ?_ (fun hHeld => ?_)
          · exact HALL _ bD
          clear hK K
          try simp only [puts, gets]
          refine any_take (by kernel_rfl) (i := 5) (oi := _) (v := ?_) rfl rfl (by kernel_rfl) (by kernel_rfl) (by kernel_rfl) (fun _ _ _ h => h) (Or.inl ⟨by rfl, ?_⟩) hHeld ?_
          rotate_left
          · intro w' hSw; try dsimp only at hSw
            go_simp
            try with_reducible rfl
          try simp only [puts, gets]
          refine any_take (by kernel_rfl) (i := 6) (oi := _) (v := ?_) rfl rfl (by kernel_rfl) (by kernel_rfl) (by kernel_rfl) (fun _ _ _ h => h) (Or.inl ⟨by rfl, ?_⟩) hHeld ?_
          rotate_left
          · intro w' hSw; try dsimp only at hSw
            go_simp
            try with_reducible rfl
          try simp only [puts, gets]
          refine any_take (by kernel_rfl) (i := 7) (oi := _) (v := undef) rfl rfl (by kernel_rfl) (by kernel_rfl) (by kernel_rfl) (fun _ _ _ h => h) (Or.inr ⟨by rfl, rfl⟩) hHeld ?_
          try simp only [puts, gets]
          refine any_take (by kernel_rfl) (i := 8) (oi := _) (v := undef) rfl rfl (by kernel_rfl) (by kernel_rfl) (by kernel_rfl) (fun _ _ _ h => h) (Or.inr ⟨by rfl, rfl⟩) hHeld ?_
          try simp only [puts, gets]
          refine any_take (by kernel_rfl) (i := 9) (oi := _) (v := undef) rfl rfl (by kernel_rfl) (by kernel_rfl) (by kernel_rfl) (fun _ _ _ h => h) (Or.inr ⟨by rfl, rfl⟩) hHeld ?_
          try simp only [puts, gets]
          refine any_take (by kernel_rfl) (i := 10) (oi := _) (v := undef) rfl rfl (by kernel_rfl) (by kernel_rfl) (by kernel_rfl) (fun _ _ _ h => h) (Or.inr ⟨by rfl, rfl⟩) hHeld ?_
          try simp only [puts, gets]
          refine any_take (by kernel_rfl) (i := 11) (oi := _) (v := undef) rfl rfl (by kernel_rfl) (by kernel_rfl) (by kernel_rfl) (fun _ _ _ h => h) (Or.inr ⟨by rfl, rfl⟩) hHeld ?_
          try simp only [puts, gets]
          refine any_take (by kernel_rfl) (i := 12) (oi := _) (v := undef) rfl rfl (by kernel_rfl) (by kernel_rfl) (by kernel_rfl) (fun _ _ _ h => h) (Or.inr ⟨by rfl, rfl⟩) hHeld ?_
          try simp only [puts, gets]
          refine any_take (by kernel_rfl) (i := 13) (oi := _) (v := undef) rfl rfl (by kernel_rfl) (by kernel_rfl) (by kernel_rfl) (fun _ _ _ h => h) (Or.inr ⟨by rfl, rfl⟩) hHeld ?_
          try simp only [puts, gets]
          refine any_take (by kernel_rfl) (i := 14) (oi := _) (v := ?_) rfl rfl (by kernel_rfl) (by kernel_rfl) (by kernel_rfl) (fun _ _ _ h => h) (Or.inl ⟨by rfl, ?_⟩) hHeld ?_
          rotate_left
          · intro w' hSw; try dsimp only at hSw
            go_simp
            try with_reducible rfl
          try simp only [puts, gets]
          refine any_take (by kernel_rfl) (i := 15) (oi := _) (v := ?_) rfl rfl (by kernel_rfl) (by kernel_rfl) (by kernel_rfl) (fun _ _ _ h => h) (Or.inl ⟨by rfl, ?_⟩) hHeld ?_
          rotate_left
          · intro w' hSw; try dsimp only at hSw
            go_simp
            try with_reducible rfl
          try simp only [puts, gets]
          refine any_take (by kernel_rfl) (i := 16) (oi := _) (v := ?_) rfl rfl (by kernel_rfl) (by kernel_rfl) (by kernel_rfl) (fun _ _ _ h => h) (Or.inl ⟨by rfl, ?_⟩) hHeld ?_
          rotate_left
          · intro w' hSw; try dsimp only at hSw
            go_simp
            try with_reducible rfl
          try simp only [puts, gets]
          refine any_done (by kernel_rfl) ?_ _
          refine NoPanic.normal ?_
          have B9 := below_trans B1 bD
          go_wp2
          go_ret
          exact ⟨rfl, B9⟩
        | true =>
          refine wp_region_noPanic ?_
          refine wp_region_late (fun w' => w'.cell? ⟨b5, 0, none⟩ = some r.vv ∧ w'.cell? ⟨b5, 1, none⟩ = some r.kv ∧ w'.cell? ⟨b5, 2, none⟩ = some r.wv) 17 (by kernel_rfl) (HALL _ (Below.refl _ _).drew) (fun _ => ?_)
          obtain ⟨wd, hwd⟩ : ∃ x : World, ws.drew = x := ⟨_, rfl⟩
          have bD : Below ws.heap.size ws wd := by rw [← hwd]; exact (Below.refl _ _).drew
          rw [hwd]
          clear hwd
          have hHeld := HALL _ bD
          refine any_take (by kernel_rfl) (i := 0) (oi := _) (v := ?_) rfl rfl (by kernel_rfl) (by kernel_rfl) (by kernel_rfl) (fun _ _ _ h => h) (Or.inl ⟨by rfl, ?_⟩) hHeld ?_
          rotate_left
          · intro w' hSw; try dsimp only at hSw
            go_simp
            try with_reducible rfl
          try simp only [puts, gets]
          refine any_take (by kernel_rfl) (i := 1) (oi := _) (v := ?_) rfl rfl (by kernel_rfl) (by kernel_rfl) (by kernel_rfl) (fun _ _ _ h => h) (Or.inl ⟨by rfl, ?_⟩) hHeld ?_
          rotate_left
          · intro w' hSw; try dsimp only at hSw
            go_simp
            try with_reducible rfl
          try simp only [puts, gets]
          refine any_take (by kernel_rfl) (i := 2) (oi := _) (v := ?_) rfl rfl (by kernel_rfl) (by kernel_rfl) (by kernel_rfl) (fun _ _ _ h => h) (Or.inl ⟨by rfl, ?_⟩) hHeld ?_
          rotate_left
          · intro w' hSw; try dsimp only at hSw
            go_simp
            try with_reducible rfl
          try simp only [puts, gets]
          refine any_take (by kernel_rfl) (i := 3) (oi := _) (v := ?_) rfl rfl (by kernel_rfl) (by kernel_rfl) (by kernel_rfl) (fun _ _ _ h => h) (Or.inl ⟨by rfl, ?_⟩) hHeld ?_
          rotate_left
          · intro w' hSw; try dsimp only at hSw
            go_simp
            try with_reducible rfl
          try simp only [puts, gets]
          refine any_next (i := 4) (by kernel_rfl) rfl rfl (fun K hK => ?_)
          go_simp
          go_at_call 60
          refine (hV _ (hT.keep bD) (hr.keep bD)).mono ?_
          rintro e wr1 ⟨rfl, bC⟩
          replace bD := below_trans bD bC
          clear bC
          refine hK.out _ _ ?_ (fun hHeld => ?_)
          · exact HALL _ bD
          clear hK K
          try simp only [puts, gets]
          refine any_take (by kernel_rfl) (i := 5) (oi := _) (v := ?_) rfl rfl (by kernel_rfl) (by kernel_rfl) (by kernel_rfl) (fun _ _ _ h => h) (Or.inl ⟨by rfl, ?_⟩) hHeld ?_
          rotate_left
          · intro w' hSw; try dsimp only at hSw
            go_simp
            try with_reducible rfl
          try simp only [puts, gets]
          refine any_take (by kernel_rfl) (i := 6) (oi := _) (v := ?_) rfl rfl (by kernel_rfl) (by kernel_rfl) (by kernel_rfl) (fun _ _ _ h => h) (Or.inl ⟨by rfl, ?_⟩) hHeld ?_
          rotate_left
          · intro w' hSw; try dsimp only at hSw
            go_simp
            try with_reducible rfl
          try simp only [puts, gets]
          refine any_take (by kernel_rfl) (i := 7) (oi := _) (v := ?_) rfl rfl (by kernel_rfl) (by kernel_rfl) (by kernel_rfl) (fun _ _ _ h => h) (Or.inl ⟨by rfl, ?_⟩) hHeld ?_
          rotate_left
          · intro w' hSw; try dsimp only at hSw
            go_simp
            try with_reducible rfl
          try simp only [puts, gets]
          refine any_take (by kernel_rfl) (i := 8) (oi := _) (v := ?_) rfl rfl (by kernel_rfl) (by kernel_rfl) (by kernel_rfl) (fun _ _ _ h => h) (Or.inl ⟨by rfl, ?_⟩) hHeld ?_
          rotate_left
          · intro w' hSw; try dsimp only at hSw
            go_simp
            try with_reducible rfl
          try simp only [puts, gets]
          refine any_take (by kernel_rfl) (i := 9) (oi := _) (v := ?_) rfl rfl (by kernel_rfl) (by kernel_rfl) (by kernel_rfl) (fun _ _ _ h => h) (Or.inl ⟨by rfl, ?_⟩) hHeld ?_
          rotate_left
          · intro w' hSw; try dsimp only at hSw
            go_simp
            try with_reducible rfl
          try simp only [puts, gets]
          refine any_take (by kernel_rfl) (i := 12) (oi := _) (v := ?_) rfl rfl (by kernel_rfl) (by kernel_rfl) (by kernel_rfl) (fun _ _ _ h => h) (Or.inl ⟨by rfl, ?_⟩) hHeld ?_
          rotate_left
          · intro w' hSw; try dsimp only at hSw
            go_simp
            try with_reducible rfl
          try simp only [puts, gets]
          refine any_next (i := 10) (by kernel_rfl) rfl rfl (fun K hK => ?_)
          go_simp
          go_at_call 62
          refine (hRW _ (hT.keep bD) (hr.keep bD)).mono ?_
          rintro e wr2 ⟨u2, l2, rfl, HL2, HE2, bC⟩
          have R2 := HL2.rel (by have := congrArg List.length HE2.out; rw [rows_length] at this; have := small_rows HS.out columns; omega)
          have HM2 := Lib.hid (raw_sml hc0 hc4 HV.out HS.out HE2.out)
          replace bD := below_trans bD bC
          clear bC HL2
          refine hK.out _ _ ?_ (fun hHeld => ?_)
          · exact HALL _ bD
          clear hK K
          try simp only [puts, gets]
          refine any_next (i := 11) (by kernel_rfl) rfl rfl (fun K hK => ?_)
          go_simp
          go_at_call 57
          refine (TBuild_any _ columns l2 _ (hT.keep bD) R2 HM2.out).mono ?_
          rintro e wr3 ⟨t3, rfl, ht3, HB3, bC⟩
          unfold trV
          replace bD := below_trans bD bC
          clear bC R2
          refine hK.out _ _ ?_ (fun hHeld => ?_)
          · exact HALL _ bD
          clear hK K
          try simp only [puts, gets]
          refine any_next (i := 13) (by kernel_rfl) rfl rfl (fun K hK => ?_)
          go_simp
          go_at_call 56
          have hSQ := hSM _ t3 ht3 (hr.keep bD)
          unfold trV at hSQ
          rw [raw_same hc0 hc4 HV.out HE2.out HB3.out] at hSQ
          refine hSQ.mono ?_
          rintro e wr4 ⟨rfl, bC⟩
          clear hSQ
          replace bD := below_trans bD bC
          clear bC
          refine hK.out _ _ ?_ (fun hHeld => ?_)
          · exact HALL _ bD
          clear hK K
          try simp only [puts, gets]
          refine any_take (by kernel_rfl) (i := 14) (oi := _) (v := ?_) rfl rfl (by kernel_rfl) (by kernel_rfl) (by kernel_rfl) (fun _ _ _ h => h) (Or.inl ⟨by rfl, ?_⟩) hHeld ?_
          rotate_left
          · intro w' hSw; try dsimp only at hSw
            go_simp
            try with_reducible rfl
          try simp only [puts, gets]
          refine any_take (by kernel_rfl) (i := 15) (oi := _) (v := ?_) rfl rfl (by kernel_rfl) (by kernel_rfl) (by kernel_rfl) (fun _ _ _ h => h) (Or.inl ⟨by rfl, ?_⟩) hHeld ?_
          rotate_left
          · intro w' hSw; try dsimp only at hSw
            go_simp
            try with_reducible rfl
          try simp only [puts, gets]
          refine any_take (by kernel_rfl) (i := 16) (oi := _) (v := ?_) rfl rfl (by kernel_rfl) (by kernel_rfl) (by kernel_rfl) (fun _ _ _ h => h) (Or.inl ⟨by rfl, ?_⟩) hHeld ?_
          rotate_left
          · intro w' hSw; try dsimp only at hSw
            go_simp
            try with_reducible rfl
          try simp only [puts, gets]
          refine any_done (by kernel_rfl) ?_ _
          refine NoPanic.normal ?_
          have B9 := below_trans B1 bD
          go_wp2
          go_ret
          exact ⟨rfl, B9⟩
end Go.Proofs.YtdibijhaiaiifaaDoor
