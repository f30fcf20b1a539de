/- The law DiskCrashes. -/
import Derived.Test.YtcembocnkndlhaaVc
namespace Go.Proofs.Ytcembocnkndlhaa
open Go.RowKit
theorem IsDisk.writes_at {w : World} {wa : Option Addr} {wn wc : Nat} {q r : Value} {d : Dk} (h : IsDisk w (.agg #[q, .slice wa wn wc, r]) d) {i : Nat} {x : Wt} (hi : d.writes[i]? = some x) :
    ∃ b off pa pc, wa = some ⟨b, off, none⟩ ∧ w.cell? ⟨b, off + i * 2, none⟩ = some (.int .i64 x.at_) ∧ w.cell? ⟨b, off + i * 2 + 1, none⟩ = some (.slice pa x.data.length pc) ∧ IsBytes w (.slice pa x.data.length pc) x.data := by
  obtain ⟨pv, wv, e, h1, h2⟩ := h
  simp at e
  rw [← e.2.1] at h2
  exact h2.at_ hi
theorem IsBytes.at_ {w : World} {a : Option Addr} {n c : Nat} {l : List UInt8} (h : IsBytes w (.slice a n c) l) {i : Nat} {x : UInt8} (hi : l[i]? = some x) :
    ∃ b off, a = some ⟨b, off, none⟩ ∧ w.cell? ⟨b, off + i, none⟩ = some (.int .u8 x.toNat) := by
  obtain ⟨a', c', e, h1, hm⟩ := h
  injection e with e1 e2 e3
  subst e1
  exact h1.one hi rfl
theorem look_or {d : Dk} (hf : formed d = true) (keep torn : Int) {n : Int} (h0 : 0 ≤ n) : ∃ nn : Nat, nn ≤ 64 ∧ ((∃ x, d.writes[kept d keep]? = some x ∧ x.at_ = n ∧ max 0 (min torn 64) = (nn : Int)) ∨ (nn = 0 ∧ ∃ x, d.writes[kept d keep]? = some x ∧ x.at_ ≠ n) ∨ (nn = 0 ∧ d.writes.length ≤ kept d keep))
    ∧ ∀ j, j < 64 → ∃ u : UInt8, (look ⟨broken d keep torn, [], false⟩ n)[j]? = some u ∧ (j < nn → ∃ x, d.writes[kept d keep]? = some x ∧ x.data.length = 64 ∧ x.data[j]? = some u) ∧ (nn ≤ j → (look ⟨d.pages, d.writes.take (kept d keep), false⟩ n)[j]? = some u) := by
  have hk := look_broken hf keep torn h0
  have hlo := length_look ⟨d.pages, d.writes.take (kept d keep), false⟩ n
  have hln := length_look ⟨broken d keep torn, [], false⟩ n
  generalize look ⟨d.pages, d.writes.take (kept d keep), false⟩ n = old at *
  generalize look ⟨broken d keep torn, [], false⟩ n = new at *
  cases hx : d.writes[kept d keep]? with
  | none =>
    rw [hx] at hk
    dsimp only at hk
    subst hk
    refine ⟨0, by omega, .inr (.inr ⟨rfl, by simpa using hx⟩), fun j hj => ⟨_, List.getElem?_eq_getElem (by omega), fun h => by omega, fun _ => List.getElem?_eq_getElem (by omega)⟩⟩
  | some x =>
    rw [hx] at hk
    dsimp only at hk
    have hxm := ((formed_iff d).1 hf).2.2.1 x (List.mem_of_getElem? hx)
    by_cases e : x.at_ = n
    · rw [if_pos e] at hk
      refine ⟨(max 0 (min torn 64)).toNat, by omega, .inl ⟨x, rfl, e, by omega⟩, fun j hj => ?_⟩
      generalize (max 0 (min torn 64)).toNat = nn at *
      subst hk
      by_cases hn : j < nn
      · refine ⟨x.data[j], ?_, fun _ => ⟨x, rfl, hxm.2.2, List.getElem?_eq_getElem (by omega)⟩, fun h => by omega⟩
        unfold over
        rw [List.getElem?_append_left (by simp; omega), List.getElem?_take, if_pos hn]
        exact List.getElem?_eq_getElem (by omega)
      · refine ⟨old[j], ?_, fun h => by omega, fun _ => List.getElem?_eq_getElem (by omega)⟩
        unfold over
        rw [List.getElem?_append_right (by simp; omega), List.getElem?_drop]
        have : nn + (j - (x.data.take nn).length) = j ∨ 64 ≤ nn := by simp; omega
        rcases this with h | h
        · rw [h]; exact List.getElem?_eq_getElem (by omega)
        · omega
    · rw [if_neg e] at hk
      subst hk
      exact ⟨0, by omega, .inr (.inl ⟨rfl, x, rfl, e⟩), fun j hj => ⟨_, List.getElem?_eq_getElem (by omega), fun h => by omega, fun _ => List.getElem?_eq_getElem (by omega)⟩⟩
theorem law6_facts {d : Dk} (keep torn : Int) {n : Int} (hf : formed d = true) (hd : d.down = false) (h0 : 0 ≤ n) (h1 : n < 400) : ∃ (kk nn : Nat) (c cr wd s : Dk) (new old : List UInt8),
    Hid (max 0 (min keep d.writes.length) = (kk : Int)) ∧ kk ≤ d.writes.length ∧ Hid (crashD d keep torn = c) ∧ Hid (restartD c = cr) ∧ decide (0 < cr.writes.length) = false ∧ Hid (⟨d.pages, d.writes.take kk, false⟩ = wd) ∧ Hid (readD cr n = (new, 0)) ∧ Hid (readD wd n = (old, 0)) ∧ Hid (new.length = 64) ∧ Hid (old.length = 64) ∧ nn ≤ 64
    ∧ Hid ((∃ x, d.writes[kk]? = some x ∧ x.at_ = n ∧ max 0 (min torn 64) = (nn : Int)) ∨ (nn = 0 ∧ ∃ x, d.writes[kk]? = some x ∧ x.at_ ≠ n) ∨ (nn = 0 ∧ d.writes.length ≤ kk))
    ∧ Hid (∀ j, j < 64 → ∃ u : UInt8, new[j]? = some u ∧ (j < nn → ∃ x, d.writes[kk]? = some x ∧ x.data.length = 64 ∧ x.data[j]? = some u) ∧ (nn ≤ j → old[j]? = some u)) ∧ Hid (syncD d = (s, 0)) ∧ Hid (d.writes.length ≤ kk → cr = s) := by
  obtain ⟨nn, hn, hc, hj⟩ := look_or hf keep torn h0
  have hfc := formed_crash hf keep torn true
  have hfr := formed_crash hf keep torn false
  refine ⟨kept d keep, nn, _, ⟨broken d keep torn, [], false⟩, _, _, _, _, Lib.hid (by unfold kept; omega), kept_le d keep, Lib.hid (crashD_ok hf keep torn), Lib.hid (restartD_ok hfc), by simp, Lib.hid rfl, Lib.hid (readD_ok hfr rfl h0 h1), Lib.hid (readD_ok (formed_take hf _) rfl h0 h1), Lib.hid (length_look _ _), Lib.hid (length_look _ _), hn, Lib.hid hc, Lib.hid hj, Lib.hid (syncD_ok hf hd), Lib.hid fun h => ?_⟩
  rw [broken_all h]
set_option maxHeartbeats 16000000 in
set_option maxRecDepth 100000 in
theorem law6_any (v : Value) (d : Dk) (keep torn a : Int) (w : World) (h0 : IsDisk w v d) (hkb : -128 ≤ keep ∧ keep < 128) (htb : -128 ≤ torn ∧ torn < 128) (ha : 0 ≤ a ∧ a < 65536) : Calls Try.prog 6 #[v, .int .i8 keep, .int .i8 torn, .int .u16 a] w fun e w' => e = .returned (.bool true) ∧ Below w.heap.size w w' := by
  obtain ⟨hkb0, hkb1⟩ := hkb
  obtain ⟨htb0, htb1⟩ := htb
  obtain ⟨pa0, pc0, wa0, wc0, rfl, -, -, m1, m2, m3⟩ := h0.shape
  obtain ⟨w1, hB0⟩ : ∃ x : World, x = w.alloc (.cells #[.slice pa0 d.pages.length pc0, .slice wa0 d.writes.length wc0, .bool d.down] 25) := ⟨_, rfl⟩
  have bp : _ ∧ _ := ⟨heap_alloc_new w (.cells #[.slice pa0 d.pages.length pc0, .slice wa0 d.writes.length wc0, .bool d.down] 25), below_new w (.cells #[.slice pa0 d.pages.length pc0, .slice wa0 d.writes.length wc0, .bool d.down] 25)⟩
  rw [← hB0] at bp
  obtain ⟨g0, bN⟩ := bp
  replace h0 := h0.keep bN
  have b0 := bN
  clear bN
  go_enter Try.func6, Try.ntmps6
  go_wp2_with fail
  rw [← hB0]
  clear hB0
  refine (head_any _).mono ?_
  intro e w2 hres
  obtain ⟨rfl, bN⟩ := hres
  replace g0 := block_keep g0 bN
  replace h0 := h0.keep bN
  replace b0 := below_trans b0 bN
  clear bN
  obtain ⟨y00, y01, y02, f00, f01, f02⟩ := Box3.of g0
  go_wp2_with fail
  refine (fine_any _ d _ h0).mono ?_
  rintro e w9 ⟨rfl, bN⟩
  clear y00 y01 y02 f00 f01 f02
  replace g0 := block_keep g0 bN
  replace h0 := h0.keep bN
  replace b0 := below_trans b0 bN
  clear bN
  cases hfi : fineD d
  · go_wp2
    go_ret
    exact ⟨rfl, b0⟩
  obtain ⟨hfm, hdn, hwl, -⟩ := fine_parts hfi
  obtain ⟨n, hn⟩ : ∃ kk : Int, kk = a % 400 := ⟨_, rfl⟩
  have hn0 : 0 ≤ n := by omega
  have hn1 : n < 400 := by omega
  have Hn := Lib.hid hn
  obtain ⟨kk, nn, c, cr, wd, s, new, old, HK, hkl, HC, HT, hcw, HWD, HRN, HRO, HLN, HLO, hnn, HCA, HJ, HS, HSM⟩ := law6_facts keep torn hfm hdn hn0 hn1
  have HFM := Lib.hid hfm
  have hkk0 : (0 : Int) ≤ (kk : Int) := by omega
  clear hfm hdn hfi hn
  go_upto_region 4 with fail
  obtain ⟨y00, y01, y02, f00, f01, f02⟩ := Box3.of g0
  go_wp2_with fail
  refine (Crash_any _ d keep torn _ h0).mono ?_
  intro e w10 hres
  obtain ⟨pa1, pc1, wa1, wc1, rfl, h1, bN⟩ := hres.to HC
  clear y00 y01 y02 f00 f01 f02
  replace g0 := block_keep g0 bN
  replace h0 := h0.keep bN
  replace b0 := below_trans b0 bN
  clear bN
  go_wp2_with fail
  refine (Restart_any _ c _ h1).mono ?_
  intro e w11 hres
  obtain ⟨pa2, pc2, wa2, wc2, rfl, h2, bN⟩ := hres.to HT
  replace g0 := block_keep g0 bN
  replace h0 := h0.keep bN
  replace h1 := h1.keep bN
  replace b0 := below_trans b0 bN
  clear bN
  clear h1
  obtain ⟨w12, hB2⟩ : ∃ x : World, x = w11.alloc (.cells #[(.slice pa2 cr.pages.length pc2), (.slice wa2 cr.writes.length wc2), (.bool cr.down)] 25) := ⟨_, rfl⟩
  have bp : _ ∧ _ := ⟨heap_alloc_new w11 (.cells #[(.slice pa2 cr.pages.length pc2), (.slice wa2 cr.writes.length wc2), (.bool cr.down)] 25), below_new w11 (.cells #[(.slice pa2 cr.pages.length pc2), (.slice wa2 cr.writes.length wc2), (.bool cr.down)] 25)⟩
  rw [← hB2] at bp
  obtain ⟨g2, bN⟩ := bp
  replace g0 := block_keep g0 bN
  replace h0 := h0.keep bN
  replace h2 := h2.keep bN
  replace b0 := below_trans b0 bN
  clear bN
  go_upto_region 5 with fail
  rw [← hB2]
  clear hB2
  obtain ⟨y00, y01, y02, f00, f01, f02⟩ := Box3.of g0
  go_cut [11] from 33 to 39 (fun v11 wx => v11 = .int .i64 (kk : Int) ∧ w12 = wx)
  case first =>
    go_wp2
    all_goals
      go_meet
      case rel => exact ⟨by congr 1; have := HK.out; omega, rfl⟩
  case rest =>
    obtain ⟨rfl, rfl⟩ := hcut
    clear y00 y01 y02 f00 f01 f02
    obtain ⟨y00, y01, y02, f00, f01, f02⟩ := Box3.of g0
    go_wp2_with fail
    refine (written_any _ d kk _ h0 HFM.out (by omega) hkl).mono ?_
    intro e w13 hres
    obtain ⟨pa3, pc3, wa3, wc3, rfl, h3, bN⟩ := hres.to HWD
    clear y00 y01 y02 f00 f01 f02
    replace g0 := block_keep g0 bN
    replace g2 := block_keep g2 bN
    replace h0 := h0.keep bN
    replace h2 := h2.keep bN
    replace b0 := below_trans b0 bN
    clear bN
    obtain ⟨w14, hB3⟩ : ∃ x : World, x = w13.alloc (.cells #[(.slice pa3 wd.pages.length pc3), (.slice wa3 wd.writes.length wc3), (.bool wd.down)] 25) := ⟨_, rfl⟩
    have bp : _ ∧ _ := ⟨heap_alloc_new w13 (.cells #[(.slice pa3 wd.pages.length pc3), (.slice wa3 wd.writes.length wc3), (.bool wd.down)] 25), below_new w13 (.cells #[(.slice pa3 wd.pages.length pc3), (.slice wa3 wd.writes.length wc3), (.bool wd.down)] 25)⟩
    rw [← hB3] at bp
    obtain ⟨g3, bN⟩ := bp
    replace g0 := block_keep g0 bN
    replace g2 := block_keep g2 bN
    replace h0 := h0.keep bN
    replace h2 := h2.keep bN
    replace h3 := h3.keep bN
    replace b0 := below_trans b0 bN
    clear bN
    go_upto_region 7 with fail
    rw [← hB3]
    clear hB3
    go_upto_region 8 with fail
    rw [← Hn.out]
    obtain ⟨y00, y01, y02, f00, f01, f02⟩ := Box3.of g2
    go_wp2_with fail
    refine page_ts (d := cr) h2 HRN ?_
    intro pa4 pc4 w15 t4 bN
    clear y00 y01 y02 f00 f01 f02
    replace g0 := block_keep g0 bN
    replace g2 := block_keep g2 bN
    replace g3 := block_keep g3 bN
    replace h0 := h0.keep bN
    replace h2 := h2.keep bN
    replace h3 := h3.keep bN
    replace b0 := below_trans b0 bN
    clear bN
    obtain ⟨y00, y01, y02, f00, f01, f02⟩ := Box3.of g3
    go_wp2_with fail
    refine page_ts (d := wd) h3 HRO ?_
    intro pa5 pc5 w16 t5 bN
    clear y00 y01 y02 f00 f01 f02
    replace g0 := block_keep g0 bN
    replace g2 := block_keep g2 bN
    replace g3 := block_keep g3 bN
    replace h0 := h0.keep bN
    replace h2 := h2.keep bN
    replace h3 := h3.keep bN
    replace t4 := t4.keep bN
    replace b0 := below_trans b0 bN
    clear bN
    have q4 : ((new.length : Int) != 64) = false := by rw [HLN.out]; rfl
    have q5 : ((old.length : Int) != 64) = false := by rw [HLO.out]; rfl
    obtain ⟨y00, y01, y02, f00, f01, f02⟩ := Box3.of g2
    obtain ⟨y10, y11, y12, f10, f11, f12⟩ := Box3.of g0
    go_upto_region 13 with fail
    clear q4 q5
    obtain ⟨tt, HTT⟩ : ∃ tt : Bool, Hid ((tt = true ∧ ∃ x, d.writes[kk]? = some x ∧ x.at_ = n ∧ max 0 (min torn 64) = (nn : Int)) ∨ (tt = false ∧ nn = 0 ∧ ((∃ x, d.writes[kk]? = some x ∧ x.at_ ≠ n) ∨ d.writes.length ≤ kk))) := by
      rcases HCA.out with h | ⟨h1, h2⟩ | ⟨h1, h2⟩
      · exact ⟨true, Lib.hid (.inl ⟨rfl, h⟩)⟩
      · exact ⟨false, Lib.hid (.inr ⟨rfl, h1, .inl h2⟩)⟩
      · exact ⟨false, Lib.hid (.inr ⟨rfl, h1, .inr h2⟩)⟩
    go_cut [80] from 66 to 80 (fun v80 wx => v80 = .bool tt ∧ w16 = wx)
    case first =>
      rcases HTT.out with ⟨rfl, x, hx, hat, -⟩ | ⟨rfl, -, ⟨x, hx, hat⟩ | hge⟩
      · have hat2 : (x.at_ == n) = true := by simp [hat]
        have hlt : kk < d.writes.length := (List.getElem?_eq_some_iff.1 hx).1
        have hlt2 : (kk : Int) < (d.writes.length : Int) := by omega
        obtain ⟨b, off, da, dc, rfl, k0, k1, -⟩ := IsDisk.writes_at h0 hx
        clear hx hat
        go_wp2
        all_goals
          go_meet
          case rel => exact ⟨rfl, rfl⟩
      · have hat2 : (x.at_ == n) = false := by simpa using hat
        have hlt : kk < d.writes.length := (List.getElem?_eq_some_iff.1 hx).1
        have hlt2 : (kk : Int) < (d.writes.length : Int) := by omega
        obtain ⟨b, off, da, dc, rfl, k0, k1, -⟩ := IsDisk.writes_at h0 hx
        clear hx hat
        go_wp2
        all_goals
          go_meet
          case rel => exact ⟨rfl, rfl⟩
      · have hlt : ¬ kk < d.writes.length := by omega
        have hlt2 : decide (kk < d.writes.length) = false := decide_eq_false hlt
        go_wp2
        all_goals
          go_meet
          case rel => exact ⟨rfl, rfl⟩
    case rest =>
      obtain ⟨rfl, rfl⟩ := hcut
      clear HCA
      go_upto_if 80 with (fail)
      go_cut [16] from 81 to 84 (fun v16 wx => v16 = .int .i64 (nn : Int) ∧ w16 = wx)
      case first =>
        rcases HTT.out with ⟨rfl, -, -, -, hnn2⟩ | ⟨rfl, rfl, -⟩
        · have HN2 := Lib.hid hnn2
          clear hnn2
          go_wp2
          all_goals
            go_meet
            case rel => exact ⟨by congr 1; have := HN2.out; omega, rfl⟩
        · go_wp2
          go_meet
          case rel => exact ⟨rfl, rfl⟩
      case rest =>
        obtain ⟨rfl, rfl⟩ := hcut
        clear HTT
        have hnn0 : (0 : Int) ≤ (nn : Int) := by omega
        go_wp2
        go_loop [17, 18] (fun i _ => ∃ j : Nat, j ≤ 64 ∧ i = .int .i64 j) (fun i _ => 64 - (intOf i).toNat)
        case atStart => exact ⟨0, by omega, rfl⟩
        case round =>
          obtain ⟨j, hj, rfl⟩ := hrel
          have hj0 : (0 : Int) ≤ (j : Int) := by omega
          by_cases hlt : j < 64
          · have hj3 : decide ((j : Int) < 64) = true := decide_eq_true (by omega)
            obtain ⟨u, hu, hx, ho⟩ := HJ.out j hlt
            have hl1 : (j : Int) < (new.length : Int) := by have := HLN.out; omega
            have hl2 : (j : Int) < (old.length : Int) := by have := HLO.out; omega
            obtain ⟨zo, hzo⟩ : ∃ zo, old[j]? = some zo := ⟨_, List.getElem?_eq_getElem (by omega)⟩
            obtain ⟨b1, of1, e1, d1⟩ := IsBytes.at_ t4 hu
            obtain ⟨b2, of2, e2, d2⟩ := IsBytes.at_ t5 hzo
            subst e1 e2
            have HO := Lib.hid ho
            have HX := Lib.hid hx
            have HU := Lib.hid hu
            have HZO := Lib.hid hzo
            clear hu hx ho hzo
            by_cases hjn : j < nn
            · obtain ⟨x, hx, hxl, hxu⟩ := HX.out hjn
              have hkt : (kk : Int) < (d.writes.length : Int) := by have := (List.getElem?_eq_some_iff.1 hx).1; omega
              obtain ⟨b, off, da, dc, rfl, k0, k1, hB⟩ := IsDisk.writes_at h0 hx
              obtain ⟨b3, of3, rfl, d3⟩ := IsBytes.at_ hB hxu
              have hl3 : (j : Int) < (x.data.length : Int) := by omega
              have hjn2 : decide (j < nn) = true := decide_eq_true hjn
              clear hx hxl hxu
              go_wp2
              go_round
              case rel => exact ⟨j + 1, by omega, by go_num⟩
              case measure => simp [intOf]; omega
            · have hzu : zo = u := by have h1 := HO.out (by omega); have h2 := HZO.out; rw [h2] at h1; exact Option.some.inj h1
              subst hzu
              have hjn2 : decide (j < nn) = false := decide_eq_false hjn
              go_wp2
              go_round
              case rel => exact ⟨j + 1, by omega, by go_num⟩
              case measure => simp [intOf]; omega
          · have hj3 : decide ((j : Int) < 64) = false := decide_eq_false (by omega)
            clear y00 y01 y02 f00 f01 f02
            clear y10 y11 y12 f10 f11 f12
            clear t4 t5 h3 HJ HRN HRO
            obtain ⟨y00, y01, y02, f00, f01, f02⟩ := Box3.of g0
            go_wp2_with fail
            refine (Sync_any _ d _ h0).mono ?_
            intro e w17 hres
            obtain ⟨pa6, pc6, wa6, wc6, rfl, h6, bN⟩ := hres.to HS
            clear y00 y01 y02 f00 f01 f02
            replace g0 := block_keep g0 bN
            replace g2 := block_keep g2 bN
            replace g3 := block_keep g3 bN
            replace h0 := h0.keep bN
            replace h2 := h2.keep bN
            replace b0 := below_trans b0 bN
            clear bN
            obtain ⟨w18, hB6⟩ : ∃ x : World, x = w17.alloc (.cells #[(.slice pa6 s.pages.length pc6), (.slice wa6 s.writes.length wc6), (.bool s.down)] 25) := ⟨_, rfl⟩
            have bp : _ ∧ _ := ⟨heap_alloc_new w17 (.cells #[(.slice pa6 s.pages.length pc6), (.slice wa6 s.writes.length wc6), (.bool s.down)] 25), below_new w17 (.cells #[(.slice pa6 s.pages.length pc6), (.slice wa6 s.writes.length wc6), (.bool s.down)] 25)⟩
            rw [← hB6] at bp
            obtain ⟨g6, bN⟩ := bp
            replace g0 := block_keep g0 bN
            replace g2 := block_keep g2 bN
            replace g3 := block_keep g3 bN
            replace h0 := h0.keep bN
            replace h2 := h2.keep bN
            replace h6 := h6.keep bN
            replace b0 := below_trans b0 bN
            clear bN
            go_upto_region 24 with fail
            rw [← hB6]
            clear hB6
            obtain ⟨y00, y01, y02, f00, f01, f02⟩ := Box3.of g0
            obtain ⟨y10, y11, y12, f10, f11, f12⟩ := Box3.of g2
            obtain ⟨y20, y21, y22, f20, f21, f22⟩ := Box3.of g6
            by_cases hkt : kk < d.writes.length
            · have hk2 : decide (kk < d.writes.length) = true := decide_eq_true hkt
              go_wp2
              go_ret
              exact ⟨rfl, b0⟩
            · have hk2 : decide (kk < d.writes.length) = false := decide_eq_false hkt
              have HE := Lib.hid (HSM.out (by omega))
              go_wp2_with fail
              refine same_ts h2 h6 HE ?_
              intro w19 bN
              go_wp2
              go_ret
              exact ⟨rfl, below_trans b0 bN⟩
end Go.Proofs.Ytcembocnkndlhaa
