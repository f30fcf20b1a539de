/- The law LatticeJoins. -/
import Derived.Test.YtkjlflmcojmfgaaDoorWo
namespace Go.Proofs.YtkjlflmcojmfgaaDoor
open Go.RowKit
theorem join_facts {n : Nat} {o : Rl2} (h : Lat n o) {a b : Nat} (ha : a < n) (hb : b < n) : ∃ j : Nat, j < n ∧ Hid (lub n o [a, b] = (j : Int)) ∧ Hid (IsLub n o [a, b] j) := by
  obtain ⟨j, h1, h2⟩ := h.join_is ha hb
  exact ⟨j, h2.1, Lib.hid h1, Lib.hid h2⟩
theorem join_swap (n : Nat) (o : Rl2) (a b : Nat) : lub n o [a, b] = lub n o [b, a] := lub_same (by simp [or_comm])
set_option maxHeartbeats 16000000 in
set_option maxRecDepth 100000 in
theorem law5_any (v : Value) (L : Ltc) (w : World) (h : IsLtc w v L) (hK : KeysAt w 0) : Calls Tryd.prog 5 #[v] w fun e w' => e = .returned (.bool true) ∧ Below w.heap.size w w' := by
  have h0 := h
  obtain ⟨ea, ec, ca, cc, rfl, -, -, m1, m2, m3⟩ := h.shape
  have g0 := heap_alloc_new w (.cells #[.string L.name.1, .slice ea L.elems.length ec, .slice ca L.covers.length cc, .int .i64 L.at_] 25)
  have b0 := below_new w (.cells #[.string L.name.1, .slice ea L.elems.length ec, .slice ca L.covers.length cc, .int .i64 L.at_] 25)
  obtain ⟨wb, hwb⟩ : ∃ x : World, x = w.alloc (.cells #[.string L.name.1, .slice ea L.elems.length ec, .slice ca L.covers.length cc, .int .i64 L.at_] 25) := ⟨_, rfl⟩
  rw [← hwb] at g0 b0
  obtain ⟨y0, y1, y2, y3⟩ := Box4.of g0
  go_enter Tryd.func5, Tryd.ntmps5
  go_wp2_with fail
  rw [← hwb]
  clear hwb y0 y1 y2 y3
  refine (head_any _ (hK.keep (keeps_below b0))).mono ?_
  rintro e w1 ⟨rfl, bN⟩
  replace g0 := block_keep g0 bN
  replace b0 := below_trans b0 bN
  clear bN
  obtain ⟨y0, y1, y2, y3⟩ := Box4.of g0
  go_wp2_with fail
  refine (Small_any _ L _ (h0.keep (keeps_below b0))).mono ?_
  rintro e w2 ⟨rfl, bN⟩
  replace g0 := block_keep g0 bN
  replace b0 := below_trans b0 bN
  clear bN y0 y1 y2 y3
  cases hsm : smallL L
  · go_wp2
    go_ret
    exact ⟨rfl, b0⟩
  clear hsm
  obtain ⟨y0, y1, y2, y3⟩ := Box4.of g0
  go_wp2_with fail
  refine (Check_any _ L _ (h0.keep (keeps_below b0)) (hK.keep (keeps_below b0))).mono ?_
  rintro e wB ⟨rfl, bN⟩
  replace g0 := block_keep g0 bN
  replace b0 := below_trans b0 bN
  clear bN y0 y1 y2 y3
  by_cases hck : checkL L = 0
  case neg =>
    have hq : (checkL L != 0) = true := by simpa using hck
    generalize checkL L = c at *
    go_wp2
    go_ret
    exact ⟨rfl, b0⟩
  have HCK := Lib.hid hck
  rw [hck]
  have hn8 := (args_parts (check_zero hck).1).1
  have hn1 := (args_parts (check_zero hck).1).2.1
  have HRG := Lib.hid (args_parts (check_zero hck).1).2.2.2
  have HLAT := Lib.hid (lat_ok hck)
  clear hck
  have bR := Below.refl wB.heap.size wB
  have HAL := Lib.hid (fun W (hW : Below wB.heap.size wB W) => (⟨h0.keep (keeps_below (below_trans b0 hW)), hK.keep (keeps_below (below_trans b0 hW))⟩ : IsLtc W _ L ∧ KeysAt W 0))
  obtain ⟨z, hz, HZI⟩ := HLAT.out.lub_is (L := []) (by simp)
  have HZ := Lib.hid hz
  have HZL := Lib.hid (fun (a : Nat) (ha : a < L.elems.length) => HZI.2.2 a ha (by simp))
  have hzn := HZI.1
  clear hz HZI
  obtain ⟨y0, y1, y2, y3⟩ := Box4.of g0
  go_wp2
  clear y0 y1 y2 y3 bR
  go_loopw [5] (fun i wr => ∃ a : Nat, a ≤ L.elems.length ∧ i = .int .i64 a ∧ Below wB.heap.size wB wr) (fun i _ => L.elems.length - (intOf i).toNat)
  case atStart => exact ⟨0, Nat.zero_le _, rfl, Below.refl _ _⟩
  case round =>
    obtain ⟨a, ha, rfl, bR⟩ := hrel
    obtain ⟨woa, rfl⟩ : ∃ wo : World, wo = wr := ⟨_, rfl⟩
    by_cases hlta : a < L.elems.length
    · have hda : decide (a < L.elems.length) = true := decide_eq_true hlta
      have HZA := Lib.hid (HZL.out a hlta)
      have HS : ∀ W, Below woa.heap.size woa W → (fun w' => w'.cell? ⟨w.heap.size, 0, none⟩ = some (.string L.name.1) ∧ w'.cell? ⟨w.heap.size, 1, none⟩ = some (.slice ea L.elems.length ec) ∧ w'.cell? ⟨w.heap.size, 2, none⟩ = some (.slice ca L.covers.length cc) ∧ w'.cell? ⟨w.heap.size, 3, none⟩ = some (.int .i64 L.at_)) W := fun W hW => ⟨(Box4.of (block_keep g0 (below_trans bR hW))).c0, (Box4.of (block_keep g0 (below_trans bR hW))).c1, (Box4.of (block_keep g0 (below_trans bR hW))).c2, (Box4.of (block_keep g0 (below_trans bR hW))).c3⟩
      go_upto_region 8 with fail
      go_cut [32] from 27 to 32 (fun v32 wx => v32 = .bool false ∧ Below wB.heap.size wB wx)
      case first =>
        refine wp_region_noPanic ?_
        refine wp_region_late (fun w' => w'.cell? ⟨w.heap.size, 0, none⟩ = some (.string L.name.1) ∧ w'.cell? ⟨w.heap.size, 1, none⟩ = some (.slice ea L.elems.length ec) ∧ w'.cell? ⟨w.heap.size, 2, none⟩ = some (.slice ca L.covers.length cc) ∧ w'.cell? ⟨w.heap.size, 3, none⟩ = some (.int .i64 L.at_)) 6 (by kernel_rfl) (HS _ (below_drew' (Below.refl _ _))) (fun hHeld => ?_)
        refine any_take (by kernel_rfl) (i := 0) (oi := _) (v := ?_) rfl rfl (by kernel_rfl) (by kernel_rfl) (by kernel_rfl) (fun _ _ _ h => h) (Or.inl ⟨by rfl, ?_⟩) hHeld ?_
        rotate_left
        · intro w' hSw; try dsimp only at hSw
          go_simp
          try with_reducible rfl
        try simp only [puts, gets]
        refine any_take (by kernel_rfl) (i := 1) (oi := _) (v := ?_) rfl rfl (by kernel_rfl) (by kernel_rfl) (by kernel_rfl) (fun _ _ _ h => h) (Or.inl ⟨by rfl, ?_⟩) hHeld ?_
        rotate_left
        · intro w' hSw; try dsimp only at hSw
          go_simp
          try with_reducible rfl
        try simp only [puts, gets]
        refine any_take (by kernel_rfl) (i := 3) (oi := _) (v := ?_) rfl rfl (by kernel_rfl) (by kernel_rfl) (by kernel_rfl) (fun _ _ _ h => h) (Or.inl ⟨by rfl, ?_⟩) hHeld ?_
        rotate_left
        · intro w' hSw; try dsimp only at hSw
          go_simp
          try with_reducible rfl
        try simp only [puts, gets]
        refine any_next (i := 2) (by kernel_rfl) rfl rfl (fun K hK => ?_)
        go_simp
        go_at_call 20
        refine bot_ts HCK (HAL.out _ (below_trans bR (below_drew' (Below.refl _ _)))) HZ ?_
        intro wq1 bq1
        replace bq1 : Below woa.heap.size woa wq1 := below_undrew bq1
        refine hK.out _ _ ?_ (fun hHeld => ?_)
        · exact HS _ bq1
        clear hK K
        refine any_next (i := 4) (by kernel_rfl) rfl rfl (fun K hK => ?_)
        go_simp
        go_at_call 14
        refine leq_ts HCK (HAL.out _ (below_trans bR bq1)) hzn hlta HZA ?_
        intro wq2 bq2
        replace bq2 : Below woa.heap.size woa wq2 := below_trans bq1 bq2
        refine hK.out _ _ ?_ (fun hHeld => ?_)
        · exact HS _ bq2
        clear hK K
        refine any_take (by kernel_rfl) (i := 5) (oi := _) (v := ?_) rfl rfl (by kernel_rfl) (by kernel_rfl) (by kernel_rfl) (fun _ _ _ h => h) (Or.inl ⟨by rfl, ?_⟩) hHeld ?_
        rotate_left
        · intro w' hSw; try dsimp only at hSw
          go_simp
          try with_reducible rfl
        try simp only [puts, gets]
        refine any_done (by kernel_rfl) ?_ _
        refine NoPanic.normal ?_
        go_wp2
        go_meet
        case rel => exact ⟨rfl, below_trans bR bq2⟩
      case rest =>
        clear HS bR
        obtain ⟨rfl, bR⟩ := hcut
        go_wp2
        go_loopw [6] (fun i wr => ∃ b : Nat, b ≤ L.elems.length ∧ i = .int .i64 b ∧ Below wB.heap.size wB wr) (fun i _ => L.elems.length - (intOf i).toNat)
        case atStart => exact ⟨0, Nat.zero_le _, rfl, bR⟩
        case round =>
          obtain ⟨b, hb, rfl, bR⟩ := hrel
          obtain ⟨wob, rfl⟩ : ∃ wo : World, wo = wr := ⟨_, rfl⟩
          by_cases hltb : b < L.elems.length
          · have hdb : decide (b < L.elems.length) = true := decide_eq_true hltb
            obtain ⟨j, hjn, HJ, HJI⟩ := join_facts HLAT.out hlta hltb
            have HJ2 : Hid (lub L.elems.length (ordL L) [b, a] = (j : Int)) := Lib.hid (by rw [join_swap]; exact HJ.out)
            have HAJ := Lib.hid (join_iff.1 HJI.out).2.1
            have HBJ := Lib.hid (join_iff.1 HJI.out).2.2.1
            have HLJ := Lib.hid (HLAT.out.leq_join hltb HJI.out)
            obtain ⟨y0, y1, y2, y3⟩ := Box4.of (block_keep g0 bR)
            go_wp2_with fail
            refine (join_at (h0.keep (keeps_below (below_trans b0 bR))) (hK.keep (keeps_below (below_trans b0 bR))) a b HCK (by omega) (by omega)).mono ?_
            rintro e wx11 ⟨rfl, bN⟩
            rw [HJ.out]
            replace bR := below_trans bR bN
            clear bN y0 y1 y2 y3
            obtain ⟨y0, y1, y2, y3⟩ := Box4.of (block_keep g0 bR)
            go_wp2_with fail
            refine (leq_at HCK (h0.keep (keeps_below (below_trans b0 bR))) (hK.keep (keeps_below (below_trans b0 bR))) (a := a) (b := j) (by omega) (by omega)).mono ?_
            rintro e wx12 ⟨rfl, bN⟩
            rw [HAJ.out]
            replace bR := below_trans bR bN
            clear bN y0 y1 y2 y3
            obtain ⟨y0, y1, y2, y3⟩ := Box4.of (block_keep g0 bR)
            go_wp2_with fail
            refine (leq_at HCK (h0.keep (keeps_below (below_trans b0 bR))) (hK.keep (keeps_below (below_trans b0 bR))) (a := b) (b := j) (by omega) (by omega)).mono ?_
            rintro e wx13 ⟨rfl, bN⟩
            rw [HBJ.out]
            replace bR := below_trans bR bN
            clear bN y0 y1 y2 y3
            have jj1 : ((j : Int) != (j : Int)) = false := by simp
            obtain ⟨y0, y1, y2, y3⟩ := Box4.of (block_keep g0 bR)
            go_wp2_with fail
            refine (join_at (h0.keep (keeps_below (below_trans b0 bR))) (hK.keep (keeps_below (below_trans b0 bR))) b a HCK (by omega) (by omega)).mono ?_
            rintro e wx14 ⟨rfl, bN⟩
            rw [HJ2.out]
            replace bR := below_trans bR bN
            clear bN y0 y1 y2 y3
            cases hab : ordL L a b
            · have HABx := Lib.hid hab
              have hjb : ((j : Int) == (b : Int)) = false := by
                have : ¬ j = b := fun e => by have := HLJ.out.2 e; rw [hab] at this; cases this
                simp; omega
              have hjb2 : (j == b) = false := by
                have : ¬ j = b := fun e => by have := HLJ.out.2 e; rw [hab] at this; cases this
                simpa using this
              clear hab
              obtain ⟨y0, y1, y2, y3⟩ := Box4.of (block_keep g0 bR)
              go_wp2_with fail
              refine (leq_at HCK (h0.keep (keeps_below (below_trans b0 bR))) (hK.keep (keeps_below (below_trans b0 bR))) (a := a) (b := b) (by omega) (by omega)).mono ?_
              rintro e wx15 ⟨rfl, bN⟩
              rw [HABx.out]
              replace bR := below_trans bR bN
              clear bN y0 y1 y2 y3
              go_wp2
              clear hjb hjb2 jj1 HABx
              go_loopw [8] (fun i wr => ∃ c : Nat, c ≤ L.elems.length ∧ i = .int .i64 c ∧ Below wB.heap.size wB wr) (fun i _ => L.elems.length - (intOf i).toNat)
              case atStart => exact ⟨0, Nat.zero_le _, rfl, bR⟩
              case round =>
                obtain ⟨c, hc, rfl, bR⟩ := hrel
                obtain ⟨woc, rfl⟩ : ∃ wo : World, wo = wr := ⟨_, rfl⟩
                by_cases hltc : c < L.elems.length
                · have hdc : decide (c < L.elems.length) = true := decide_eq_true hltc
                  obtain ⟨x1, hx1n, HX1, HXI1⟩ := join_facts HLAT.out hjn hltc
                  obtain ⟨x2, hx2n, HX2, HXI2⟩ := join_facts HLAT.out hltb hltc
                  obtain ⟨x3, hx3n, HX3, HXI3⟩ := join_facts HLAT.out hlta hx2n
                  have hx13 : x1 = x3 := HLAT.out.join_assoc HJI.out HXI1.out HXI2.out HXI3.out
                  have HLB := Lib.hid (fun h1 h2 => (join_iff.1 HJI.out).2.2.2 c hltc h1 h2)
                  subst hx13
                  have jj2 : ((x1 : Int) != (x1 : Int)) = false := by simp
                  clear HXI1 HXI2 HXI3 HAJ HBJ
                  have HS : ∀ W, Below woc.heap.size woc W → (fun w' => w'.cell? ⟨w.heap.size, 0, none⟩ = some (.string L.name.1) ∧ w'.cell? ⟨w.heap.size, 1, none⟩ = some (.slice ea L.elems.length ec) ∧ w'.cell? ⟨w.heap.size, 2, none⟩ = some (.slice ca L.covers.length cc) ∧ w'.cell? ⟨w.heap.size, 3, none⟩ = some (.int .i64 L.at_)) W := fun W hW => ⟨(Box4.of (block_keep g0 (below_trans bR hW))).c0, (Box4.of (block_keep g0 (below_trans bR hW))).c1, (Box4.of (block_keep g0 (below_trans bR hW))).c2, (Box4.of (block_keep g0 (below_trans bR hW))).c3⟩
                  go_upto_region 19 with fail
                  go_cut [107] from 77 to 107 (fun v107 wx => v107 = .bool false ∧ Below wB.heap.size wB wx)
                  case first =>
                    cases hac : ordL L a c
                    · have HAC := Lib.hid hac
                      clear hac
                      refine wp_region_noPanic ?_
                      refine wp_region_late (fun w' => w'.cell? ⟨w.heap.size, 0, none⟩ = some (.string L.name.1) ∧ w'.cell? ⟨w.heap.size, 1, none⟩ = some (.slice ea L.elems.length ec) ∧ w'.cell? ⟨w.heap.size, 2, none⟩ = some (.slice ca L.covers.length cc) ∧ w'.cell? ⟨w.heap.size, 3, none⟩ = some (.int .i64 L.at_)) 31 (by kernel_rfl) (HS _ (below_drew' (Below.refl _ _))) (fun hHeld => ?_)
                      refine any_take (by kernel_rfl) (i := 0) (oi := _) (v := ?_) rfl rfl (by kernel_rfl) (by kernel_rfl) (by kernel_rfl) (fun _ _ _ h => h) (Or.inl ⟨by rfl, ?_⟩) hHeld ?_
                      rotate_left
                      · intro w' hSw; try dsimp only at hSw
                        go_simp
                        try with_reducible rfl
                      try simp only [puts, gets]
                      refine any_take (by kernel_rfl) (i := 1) (oi := _) (v := ?_) rfl rfl (by kernel_rfl) (by kernel_rfl) (by kernel_rfl) (fun _ _ _ h => h) (Or.inl ⟨by rfl, ?_⟩) hHeld ?_
                      rotate_left
                      · intro w' hSw; try dsimp only at hSw
                        go_simp
                        try with_reducible rfl
                      try simp only [puts, gets]
                      refine any_take (by kernel_rfl) (i := 2) (oi := _) (v := ?_) rfl rfl (by kernel_rfl) (by kernel_rfl) (by kernel_rfl) (fun _ _ _ h => h) (Or.inl ⟨by rfl, ?_⟩) hHeld ?_
                      rotate_left
                      · intro w' hSw; try dsimp only at hSw
                        go_simp
                        try with_reducible rfl
                      try simp only [puts, gets]
                      refine any_next (i := 3) (by kernel_rfl) rfl rfl (fun K hK => ?_)
                      go_simp
                      go_at_call 14
                      refine leq_ts HCK (HAL.out _ (below_trans bR (below_drew' (Below.refl _ _)))) hlta hltc HAC ?_
                      intro wq1 bq1
                      replace bq1 : Below woc.heap.size woc wq1 := below_undrew bq1
                      refine hK.out _ _ ?_ (fun hHeld => ?_)
                      · exact HS _ bq1
                      clear hK K
                      refine any_take (by kernel_rfl) (i := 4) (oi := _) (v := ?_) rfl rfl (by kernel_rfl) (by kernel_rfl) (by kernel_rfl) (fun _ _ _ h => h) (Or.inl ⟨by rfl, ?_⟩) hHeld ?_
                      rotate_left
                      · intro w' hSw; try dsimp only at hSw
                        go_simp
                        try with_reducible rfl
                      try simp only [puts, gets]
                      refine any_take (by kernel_rfl) (i := 5) (oi := _) (v := undef) rfl rfl (by kernel_rfl) (by kernel_rfl) (by kernel_rfl) (fun _ _ _ h => h) (Or.inr ⟨by rfl, rfl⟩) hHeld ?_
                      try simp only [puts, gets]
                      refine any_take (by kernel_rfl) (i := 6) (oi := _) (v := undef) rfl rfl (by kernel_rfl) (by kernel_rfl) (by kernel_rfl) (fun _ _ _ h => h) (Or.inr ⟨by rfl, rfl⟩) hHeld ?_
                      try simp only [puts, gets]
                      refine any_take (by kernel_rfl) (i := 7) (oi := _) (v := undef) rfl rfl (by kernel_rfl) (by kernel_rfl) (by kernel_rfl) (fun _ _ _ h => h) (Or.inr ⟨by rfl, rfl⟩) hHeld ?_
                      try simp only [puts, gets]
                      refine any_take (by kernel_rfl) (i := 8) (oi := _) (v := undef) rfl rfl (by kernel_rfl) (by kernel_rfl) (by kernel_rfl) (fun _ _ _ h => h) (Or.inr ⟨by rfl, rfl⟩) hHeld ?_
                      try simp only [puts, gets]
                      refine any_take (by kernel_rfl) (i := 9) (oi := _) (v := ?_) rfl rfl (by kernel_rfl) (by kernel_rfl) (by kernel_rfl) (fun _ _ _ h => h) (Or.inl ⟨by rfl, ?_⟩) hHeld ?_
                      rotate_left
                      · intro w' hSw; try dsimp only at hSw
                        go_simp
                        try with_reducible rfl
                      try simp only [puts, gets]
                      refine any_take (by kernel_rfl) (i := 10) (oi := _) (v := ?_) rfl rfl (by kernel_rfl) (by kernel_rfl) (by kernel_rfl) (fun _ _ _ h => h) (Or.inl ⟨by rfl, ?_⟩) hHeld ?_
                      rotate_left
                      · intro w' hSw; try dsimp only at hSw
                        go_simp
                        try with_reducible rfl
                      try simp only [puts, gets]
                      refine any_take (by kernel_rfl) (i := 11) (oi := _) (v := undef) rfl rfl (by kernel_rfl) (by kernel_rfl) (by kernel_rfl) (fun _ _ _ h => h) (Or.inr ⟨by rfl, rfl⟩) hHeld ?_
                      try simp only [puts, gets]
                      refine any_take (by kernel_rfl) (i := 12) (oi := _) (v := undef) rfl rfl (by kernel_rfl) (by kernel_rfl) (by kernel_rfl) (fun _ _ _ h => h) (Or.inr ⟨by rfl, rfl⟩) hHeld ?_
                      try simp only [puts, gets]
                      refine any_take (by kernel_rfl) (i := 13) (oi := _) (v := undef) rfl rfl (by kernel_rfl) (by kernel_rfl) (by kernel_rfl) (fun _ _ _ h => h) (Or.inr ⟨by rfl, rfl⟩) hHeld ?_
                      try simp only [puts, gets]
                      refine any_take (by kernel_rfl) (i := 14) (oi := _) (v := undef) rfl rfl (by kernel_rfl) (by kernel_rfl) (by kernel_rfl) (fun _ _ _ h => h) (Or.inr ⟨by rfl, rfl⟩) hHeld ?_
                      try simp only [puts, gets]
                      refine any_take (by kernel_rfl) (i := 15) (oi := _) (v := undef) rfl rfl (by kernel_rfl) (by kernel_rfl) (by kernel_rfl) (fun _ _ _ h => h) (Or.inr ⟨by rfl, rfl⟩) hHeld ?_
                      try simp only [puts, gets]
                      refine any_take (by kernel_rfl) (i := 16) (oi := _) (v := ?_) rfl rfl (by kernel_rfl) (by kernel_rfl) (by kernel_rfl) (fun _ _ _ h => h) (Or.inl ⟨by rfl, ?_⟩) hHeld ?_
                      rotate_left
                      · intro w' hSw; try dsimp only at hSw
                        go_simp
                        try with_reducible rfl
                      try simp only [puts, gets]
                      refine any_take (by kernel_rfl) (i := 17) (oi := _) (v := ?_) rfl rfl (by kernel_rfl) (by kernel_rfl) (by kernel_rfl) (fun _ _ _ h => h) (Or.inl ⟨by rfl, ?_⟩) hHeld ?_
                      rotate_left
                      · intro w' hSw; try dsimp only at hSw
                        go_simp
                        try with_reducible rfl
                      try simp only [puts, gets]
                      refine any_take (by kernel_rfl) (i := 18) (oi := _) (v := ?_) rfl rfl (by kernel_rfl) (by kernel_rfl) (by kernel_rfl) (fun _ _ _ h => h) (Or.inl ⟨by rfl, ?_⟩) hHeld ?_
                      rotate_left
                      · intro w' hSw; try dsimp only at hSw
                        go_simp
                        try with_reducible rfl
                      try simp only [puts, gets]
                      refine any_take (by kernel_rfl) (i := 19) (oi := _) (v := ?_) rfl rfl (by kernel_rfl) (by kernel_rfl) (by kernel_rfl) (fun _ _ _ h => h) (Or.inl ⟨by rfl, ?_⟩) hHeld ?_
                      rotate_left
                      · intro w' hSw; try dsimp only at hSw
                        go_simp
                        try with_reducible rfl
                      try simp only [puts, gets]
                      refine any_take (by kernel_rfl) (i := 20) (oi := _) (v := ?_) rfl rfl (by kernel_rfl) (by kernel_rfl) (by kernel_rfl) (fun _ _ _ h => h) (Or.inl ⟨by rfl, ?_⟩) hHeld ?_
                      rotate_left
                      · intro w' hSw; try dsimp only at hSw
                        go_simp
                        try with_reducible rfl
                      try simp only [puts, gets]
                      refine any_take (by kernel_rfl) (i := 22) (oi := _) (v := ?_) rfl rfl (by kernel_rfl) (by kernel_rfl) (by kernel_rfl) (fun _ _ _ h => h) (Or.inl ⟨by rfl, ?_⟩) hHeld ?_
                      rotate_left
                      · intro w' hSw; try dsimp only at hSw
                        go_simp
                        try with_reducible rfl
                      try simp only [puts, gets]
                      refine any_take (by kernel_rfl) (i := 23) (oi := _) (v := ?_) rfl rfl (by kernel_rfl) (by kernel_rfl) (by kernel_rfl) (fun _ _ _ h => h) (Or.inl ⟨by rfl, ?_⟩) hHeld ?_
                      rotate_left
                      · intro w' hSw; try dsimp only at hSw
                        go_simp
                        try with_reducible rfl
                      try simp only [puts, gets]
                      refine any_take (by kernel_rfl) (i := 24) (oi := _) (v := ?_) rfl rfl (by kernel_rfl) (by kernel_rfl) (by kernel_rfl) (fun _ _ _ h => h) (Or.inl ⟨by rfl, ?_⟩) hHeld ?_
                      rotate_left
                      · intro w' hSw; try dsimp only at hSw
                        go_simp
                        try with_reducible rfl
                      try simp only [puts, gets]
                      refine any_take (by kernel_rfl) (i := 25) (oi := _) (v := ?_) rfl rfl (by kernel_rfl) (by kernel_rfl) (by kernel_rfl) (fun _ _ _ h => h) (Or.inl ⟨by rfl, ?_⟩) hHeld ?_
                      rotate_left
                      · intro w' hSw; try dsimp only at hSw
                        go_simp
                        try with_reducible rfl
                      try simp only [puts, gets]
                      refine any_take (by kernel_rfl) (i := 26) (oi := _) (v := ?_) rfl rfl (by kernel_rfl) (by kernel_rfl) (by kernel_rfl) (fun _ _ _ h => h) (Or.inl ⟨by rfl, ?_⟩) hHeld ?_
                      rotate_left
                      · intro w' hSw; try dsimp only at hSw
                        go_simp
                        try with_reducible rfl
                      try simp only [puts, gets]
                      refine any_next (i := 21) (by kernel_rfl) rfl rfl (fun K hK => ?_)
                      go_simp
                      go_at_call 16
                      refine join_ts HCK (HAL.out _ (below_trans bR bq1)) hjn hltc HX1 ?_
                      intro wq2 bq2
                      replace bq2 : Below woc.heap.size woc wq2 := below_trans bq1 bq2
                      refine hK.out _ _ ?_ (fun hHeld => ?_)
                      · exact HS _ bq2
                      clear hK K
                      refine any_next (i := 27) (by kernel_rfl) rfl rfl (fun K hK => ?_)
                      go_simp
                      go_at_call 16
                      refine join_ts HCK (HAL.out _ (below_trans bR bq2)) hltb hltc HX2 ?_
                      intro wq3 bq3
                      replace bq3 : Below woc.heap.size woc wq3 := below_trans bq2 bq3
                      refine hK.out _ _ ?_ (fun hHeld => ?_)
                      · exact HS _ bq3
                      clear hK K
                      refine any_next (i := 28) (by kernel_rfl) rfl rfl (fun K hK => ?_)
                      go_simp
                      go_at_call 16
                      refine join_ts HCK (HAL.out _ (below_trans bR bq3)) hlta hx2n HX3 ?_
                      intro wq4 bq4
                      replace bq4 : Below woc.heap.size woc wq4 := below_trans bq3 bq4
                      refine hK.out _ _ ?_ (fun hHeld => ?_)
                      · exact HS _ bq4
                      clear hK K
                      refine any_take (by kernel_rfl) (i := 29) (oi := _) (v := ?_) rfl rfl (by kernel_rfl) (by kernel_rfl) (by kernel_rfl) (fun _ _ _ h => h) (Or.inl ⟨by rfl, ?_⟩) hHeld ?_
                      rotate_left
                      · intro w' hSw; try dsimp only at hSw
                        go_simp
                        try with_reducible rfl
                      try simp only [puts, gets]
                      refine any_take (by kernel_rfl) (i := 30) (oi := _) (v := ?_) rfl rfl (by kernel_rfl) (by kernel_rfl) (by kernel_rfl) (fun _ _ _ h => h) (Or.inl ⟨by rfl, ?_⟩) hHeld ?_
                      rotate_left
                      · intro w' hSw; try dsimp only at hSw
                        go_simp
                        try with_reducible rfl
                      try simp only [puts, gets]
                      refine any_done (by kernel_rfl) ?_ _
                      refine NoPanic.normal ?_
                      go_wp2
                      go_meet
                      case rel => exact ⟨rfl, below_trans bR bq4⟩
                    · have HAC := Lib.hid hac
                      clear hac
                      cases hbc : ordL L b c
                      · have HBC := Lib.hid hbc
                        clear hbc
                        refine wp_region_noPanic ?_
                        refine wp_region_late (fun w' => w'.cell? ⟨w.heap.size, 0, none⟩ = some (.string L.name.1) ∧ w'.cell? ⟨w.heap.size, 1, none⟩ = some (.slice ea L.elems.length ec) ∧ w'.cell? ⟨w.heap.size, 2, none⟩ = some (.slice ca L.covers.length cc) ∧ w'.cell? ⟨w.heap.size, 3, none⟩ = some (.int .i64 L.at_)) 31 (by kernel_rfl) (HS _ (below_drew' (Below.refl _ _))) (fun hHeld => ?_)
                        refine any_take (by kernel_rfl) (i := 0) (oi := _) (v := ?_) rfl rfl (by kernel_rfl) (by kernel_rfl) (by kernel_rfl) (fun _ _ _ h => h) (Or.inl ⟨by rfl, ?_⟩) hHeld ?_
                        rotate_left
                        · intro w' hSw; try dsimp only at hSw
                          go_simp
                          try with_reducible rfl
                        try simp only [puts, gets]
                        refine any_take (by kernel_rfl) (i := 1) (oi := _) (v := ?_) rfl rfl (by kernel_rfl) (by kernel_rfl) (by kernel_rfl) (fun _ _ _ h => h) (Or.inl ⟨by rfl, ?_⟩) hHeld ?_
                        rotate_left
                        · intro w' hSw; try dsimp only at hSw
                          go_simp
                          try with_reducible rfl
                        try simp only [puts, gets]
                        refine any_take (by kernel_rfl) (i := 2) (oi := _) (v := ?_) rfl rfl (by kernel_rfl) (by kernel_rfl) (by kernel_rfl) (fun _ _ _ h => h) (Or.inl ⟨by rfl, ?_⟩) hHeld ?_
                        rotate_left
                        · intro w' hSw; try dsimp only at hSw
                          go_simp
                          try with_reducible rfl
                        try simp only [puts, gets]
                        refine any_next (i := 3) (by kernel_rfl) rfl rfl (fun K hK => ?_)
                        go_simp
                        go_at_call 14
                        refine leq_ts HCK (HAL.out _ (below_trans bR (below_drew' (Below.refl _ _)))) hlta hltc HAC ?_
                        intro wq1 bq1
                        replace bq1 : Below woc.heap.size woc wq1 := below_undrew bq1
                        refine hK.out _ _ ?_ (fun hHeld => ?_)
                        · exact HS _ bq1
                        clear hK K
                        refine any_take (by kernel_rfl) (i := 4) (oi := _) (v := ?_) rfl rfl (by kernel_rfl) (by kernel_rfl) (by kernel_rfl) (fun _ _ _ h => h) (Or.inl ⟨by rfl, ?_⟩) hHeld ?_
                        rotate_left
                        · intro w' hSw; try dsimp only at hSw
                          go_simp
                          try with_reducible rfl
                        try simp only [puts, gets]
                        refine any_take (by kernel_rfl) (i := 5) (oi := _) (v := ?_) rfl rfl (by kernel_rfl) (by kernel_rfl) (by kernel_rfl) (fun _ _ _ h => h) (Or.inl ⟨by rfl, ?_⟩) hHeld ?_
                        rotate_left
                        · intro w' hSw; try dsimp only at hSw
                          go_simp
                          try with_reducible rfl
                        try simp only [puts, gets]
                        refine any_take (by kernel_rfl) (i := 6) (oi := _) (v := ?_) rfl rfl (by kernel_rfl) (by kernel_rfl) (by kernel_rfl) (fun _ _ _ h => h) (Or.inl ⟨by rfl, ?_⟩) hHeld ?_
                        rotate_left
                        · intro w' hSw; try dsimp only at hSw
                          go_simp
                          try with_reducible rfl
                        try simp only [puts, gets]
                        refine any_take (by kernel_rfl) (i := 7) (oi := _) (v := ?_) rfl rfl (by kernel_rfl) (by kernel_rfl) (by kernel_rfl) (fun _ _ _ h => h) (Or.inl ⟨by rfl, ?_⟩) hHeld ?_
                        rotate_left
                        · intro w' hSw; try dsimp only at hSw
                          go_simp
                          try with_reducible rfl
                        try simp only [puts, gets]
                        refine any_next (i := 8) (by kernel_rfl) rfl rfl (fun K hK => ?_)
                        go_simp
                        go_at_call 14
                        refine leq_ts HCK (HAL.out _ (below_trans bR bq1)) hltb hltc HBC ?_
                        intro wq2 bq2
                        replace bq2 : Below woc.heap.size woc wq2 := below_trans bq1 bq2
                        refine hK.out _ _ ?_ (fun hHeld => ?_)
                        · exact HS _ bq2
                        clear hK K
                        refine any_take (by kernel_rfl) (i := 9) (oi := _) (v := ?_) rfl rfl (by kernel_rfl) (by kernel_rfl) (by kernel_rfl) (fun _ _ _ h => h) (Or.inl ⟨by rfl, ?_⟩) hHeld ?_
                        rotate_left
                        · intro w' hSw; try dsimp only at hSw
                          go_simp
                          try with_reducible rfl
                        try simp only [puts, gets]
                        refine any_take (by kernel_rfl) (i := 10) (oi := _) (v := ?_) rfl rfl (by kernel_rfl) (by kernel_rfl) (by kernel_rfl) (fun _ _ _ h => h) (Or.inl ⟨by rfl, ?_⟩) hHeld ?_
                        rotate_left
                        · intro w' hSw; try dsimp only at hSw
                          go_simp
                          try with_reducible rfl
                        try simp only [puts, gets]
                        refine any_take (by kernel_rfl) (i := 11) (oi := _) (v := undef) rfl rfl (by kernel_rfl) (by kernel_rfl) (by kernel_rfl) (fun _ _ _ h => h) (Or.inr ⟨by rfl, rfl⟩) hHeld ?_
                        try simp only [puts, gets]
                        refine any_take (by kernel_rfl) (i := 12) (oi := _) (v := undef) rfl rfl (by kernel_rfl) (by kernel_rfl) (by kernel_rfl) (fun _ _ _ h => h) (Or.inr ⟨by rfl, rfl⟩) hHeld ?_
                        try simp only [puts, gets]
                        refine any_take (by kernel_rfl) (i := 13) (oi := _) (v := undef) rfl rfl (by kernel_rfl) (by kernel_rfl) (by kernel_rfl) (fun _ _ _ h => h) (Or.inr ⟨by rfl, rfl⟩) hHeld ?_
                        try simp only [puts, gets]
                        refine any_take (by kernel_rfl) (i := 14) (oi := _) (v := undef) rfl rfl (by kernel_rfl) (by kernel_rfl) (by kernel_rfl) (fun _ _ _ h => h) (Or.inr ⟨by rfl, rfl⟩) hHeld ?_
                        try simp only [puts, gets]
                        refine any_take (by kernel_rfl) (i := 15) (oi := _) (v := undef) rfl rfl (by kernel_rfl) (by kernel_rfl) (by kernel_rfl) (fun _ _ _ h => h) (Or.inr ⟨by rfl, rfl⟩) hHeld ?_
                        try simp only [puts, gets]
                        refine any_take (by kernel_rfl) (i := 16) (oi := _) (v := ?_) rfl rfl (by kernel_rfl) (by kernel_rfl) (by kernel_rfl) (fun _ _ _ h => h) (Or.inl ⟨by rfl, ?_⟩) hHeld ?_
                        rotate_left
                        · intro w' hSw; try dsimp only at hSw
                          go_simp
                          try with_reducible rfl
                        try simp only [puts, gets]
                        refine any_take (by kernel_rfl) (i := 17) (oi := _) (v := ?_) rfl rfl (by kernel_rfl) (by kernel_rfl) (by kernel_rfl) (fun _ _ _ h => h) (Or.inl ⟨by rfl, ?_⟩) hHeld ?_
                        rotate_left
                        · intro w' hSw; try dsimp only at hSw
                          go_simp
                          try with_reducible rfl
                        try simp only [puts, gets]
                        refine any_take (by kernel_rfl) (i := 18) (oi := _) (v := ?_) rfl rfl (by kernel_rfl) (by kernel_rfl) (by kernel_rfl) (fun _ _ _ h => h) (Or.inl ⟨by rfl, ?_⟩) hHeld ?_
                        rotate_left
                        · intro w' hSw; try dsimp only at hSw
                          go_simp
                          try with_reducible rfl
                        try simp only [puts, gets]
                        refine any_take (by kernel_rfl) (i := 19) (oi := _) (v := ?_) rfl rfl (by kernel_rfl) (by kernel_rfl) (by kernel_rfl) (fun _ _ _ h => h) (Or.inl ⟨by rfl, ?_⟩) hHeld ?_
                        rotate_left
                        · intro w' hSw; try dsimp only at hSw
                          go_simp
                          try with_reducible rfl
                        try simp only [puts, gets]
                        refine any_take (by kernel_rfl) (i := 20) (oi := _) (v := ?_) rfl rfl (by kernel_rfl) (by kernel_rfl) (by kernel_rfl) (fun _ _ _ h => h) (Or.inl ⟨by rfl, ?_⟩) hHeld ?_
                        rotate_left
                        · intro w' hSw; try dsimp only at hSw
                          go_simp
                          try with_reducible rfl
                        try simp only [puts, gets]
                        refine any_take (by kernel_rfl) (i := 22) (oi := _) (v := ?_) rfl rfl (by kernel_rfl) (by kernel_rfl) (by kernel_rfl) (fun _ _ _ h => h) (Or.inl ⟨by rfl, ?_⟩) hHeld ?_
                        rotate_left
                        · intro w' hSw; try dsimp only at hSw
                          go_simp
                          try with_reducible rfl
                        try simp only [puts, gets]
                        refine any_take (by kernel_rfl) (i := 23) (oi := _) (v := ?_) rfl rfl (by kernel_rfl) (by kernel_rfl) (by kernel_rfl) (fun _ _ _ h => h) (Or.inl ⟨by rfl, ?_⟩) hHeld ?_
                        rotate_left
                        · intro w' hSw; try dsimp only at hSw
                          go_simp
                          try with_reducible rfl
                        try simp only [puts, gets]
                        refine any_take (by kernel_rfl) (i := 24) (oi := _) (v := ?_) rfl rfl (by kernel_rfl) (by kernel_rfl) (by kernel_rfl) (fun _ _ _ h => h) (Or.inl ⟨by rfl, ?_⟩) hHeld ?_
                        rotate_left
                        · intro w' hSw; try dsimp only at hSw
                          go_simp
                          try with_reducible rfl
                        try simp only [puts, gets]
                        refine any_take (by kernel_rfl) (i := 25) (oi := _) (v := ?_) rfl rfl (by kernel_rfl) (by kernel_rfl) (by kernel_rfl) (fun _ _ _ h => h) (Or.inl ⟨by rfl, ?_⟩) hHeld ?_
                        rotate_left
                        · intro w' hSw; try dsimp only at hSw
                          go_simp
                          try with_reducible rfl
                        try simp only [puts, gets]
                        refine any_take (by kernel_rfl) (i := 26) (oi := _) (v := ?_) rfl rfl (by kernel_rfl) (by kernel_rfl) (by kernel_rfl) (fun _ _ _ h => h) (Or.inl ⟨by rfl, ?_⟩) hHeld ?_
                        rotate_left
                        · intro w' hSw; try dsimp only at hSw
                          go_simp
                          try with_reducible rfl
                        try simp only [puts, gets]
                        refine any_next (i := 21) (by kernel_rfl) rfl rfl (fun K hK => ?_)
                        go_simp
                        go_at_call 16
                        refine join_ts HCK (HAL.out _ (below_trans bR bq2)) hjn hltc HX1 ?_
                        intro wq3 bq3
                        replace bq3 : Below woc.heap.size woc wq3 := below_trans bq2 bq3
                        refine hK.out _ _ ?_ (fun hHeld => ?_)
                        · exact HS _ bq3
                        clear hK K
                        refine any_next (i := 27) (by kernel_rfl) rfl rfl (fun K hK => ?_)
                        go_simp
                        go_at_call 16
                        refine join_ts HCK (HAL.out _ (below_trans bR bq3)) hltb hltc HX2 ?_
                        intro wq4 bq4
                        replace bq4 : Below woc.heap.size woc wq4 := below_trans bq3 bq4
                        refine hK.out _ _ ?_ (fun hHeld => ?_)
                        · exact HS _ bq4
                        clear hK K
                        refine any_next (i := 28) (by kernel_rfl) rfl rfl (fun K hK => ?_)
                        go_simp
                        go_at_call 16
                        refine join_ts HCK (HAL.out _ (below_trans bR bq4)) hlta hx2n HX3 ?_
                        intro wq5 bq5
                        replace bq5 : Below woc.heap.size woc wq5 := below_trans bq4 bq5
                        refine hK.out _ _ ?_ (fun hHeld => ?_)
                        · exact HS _ bq5
                        clear hK K
                        refine any_take (by kernel_rfl) (i := 29) (oi := _) (v := ?_) rfl rfl (by kernel_rfl) (by kernel_rfl) (by kernel_rfl) (fun _ _ _ h => h) (Or.inl ⟨by rfl, ?_⟩) hHeld ?_
                        rotate_left
                        · intro w' hSw; try dsimp only at hSw
                          go_simp
                          try with_reducible rfl
                        try simp only [puts, gets]
                        refine any_take (by kernel_rfl) (i := 30) (oi := _) (v := ?_) rfl rfl (by kernel_rfl) (by kernel_rfl) (by kernel_rfl) (fun _ _ _ h => h) (Or.inl ⟨by rfl, ?_⟩) hHeld ?_
                        rotate_left
                        · intro w' hSw; try dsimp only at hSw
                          go_simp
                          try with_reducible rfl
                        try simp only [puts, gets]
                        refine any_done (by kernel_rfl) ?_ _
                        refine NoPanic.normal ?_
                        go_wp2
                        go_meet
                        case rel => exact ⟨rfl, below_trans bR bq5⟩
                      · have HBC := Lib.hid hbc
                        have HJC := Lib.hid (HLB.out HAC.out hbc)
                        clear hbc
                        refine wp_region_noPanic ?_
                        refine wp_region_late (fun w' => w'.cell? ⟨w.heap.size, 0, none⟩ = some (.string L.name.1) ∧ w'.cell? ⟨w.heap.size, 1, none⟩ = some (.slice ea L.elems.length ec) ∧ w'.cell? ⟨w.heap.size, 2, none⟩ = some (.slice ca L.covers.length cc) ∧ w'.cell? ⟨w.heap.size, 3, none⟩ = some (.int .i64 L.at_)) 31 (by kernel_rfl) (HS _ (below_drew' (Below.refl _ _))) (fun hHeld => ?_)
                        refine any_take (by kernel_rfl) (i := 0) (oi := _) (v := ?_) rfl rfl (by kernel_rfl) (by kernel_rfl) (by kernel_rfl) (fun _ _ _ h => h) (Or.inl ⟨by rfl, ?_⟩) hHeld ?_
                        rotate_left
                        · intro w' hSw; try dsimp only at hSw
                          go_simp
                          try with_reducible rfl
                        try simp only [puts, gets]
                        refine any_take (by kernel_rfl) (i := 1) (oi := _) (v := ?_) rfl rfl (by kernel_rfl) (by kernel_rfl) (by kernel_rfl) (fun _ _ _ h => h) (Or.inl ⟨by rfl, ?_⟩) hHeld ?_
                        rotate_left
                        · intro w' hSw; try dsimp only at hSw
                          go_simp
                          try with_reducible rfl
                        try simp only [puts, gets]
                        refine any_take (by kernel_rfl) (i := 2) (oi := _) (v := ?_) rfl rfl (by kernel_rfl) (by kernel_rfl) (by kernel_rfl) (fun _ _ _ h => h) (Or.inl ⟨by rfl, ?_⟩) hHeld ?_
                        rotate_left
                        · intro w' hSw; try dsimp only at hSw
                          go_simp
                          try with_reducible rfl
                        try simp only [puts, gets]
                        refine any_next (i := 3) (by kernel_rfl) rfl rfl (fun K hK => ?_)
                        go_simp
                        go_at_call 14
                        refine leq_ts HCK (HAL.out _ (below_trans bR (below_drew' (Below.refl _ _)))) hlta hltc HAC ?_
                        intro wq1 bq1
                        replace bq1 : Below woc.heap.size woc wq1 := below_undrew bq1
                        refine hK.out _ _ ?_ (fun hHeld => ?_)
                        · exact HS _ bq1
                        clear hK K
                        refine any_take (by kernel_rfl) (i := 4) (oi := _) (v := ?_) rfl rfl (by kernel_rfl) (by kernel_rfl) (by kernel_rfl) (fun _ _ _ h => h) (Or.inl ⟨by rfl, ?_⟩) hHeld ?_
                        rotate_left
                        · intro w' hSw; try dsimp only at hSw
                          go_simp
                          try with_reducible rfl
                        try simp only [puts, gets]
                        refine any_take (by kernel_rfl) (i := 5) (oi := _) (v := ?_) rfl rfl (by kernel_rfl) (by kernel_rfl) (by kernel_rfl) (fun _ _ _ h => h) (Or.inl ⟨by rfl, ?_⟩) hHeld ?_
                        rotate_left
                        · intro w' hSw; try dsimp only at hSw
                          go_simp
                          try with_reducible rfl
                        try simp only [puts, gets]
                        refine any_take (by kernel_rfl) (i := 6) (oi := _) (v := ?_) rfl rfl (by kernel_rfl) (by kernel_rfl) (by kernel_rfl) (fun _ _ _ h => h) (Or.inl ⟨by rfl, ?_⟩) hHeld ?_
                        rotate_left
                        · intro w' hSw; try dsimp only at hSw
                          go_simp
                          try with_reducible rfl
                        try simp only [puts, gets]
                        refine any_take (by kernel_rfl) (i := 7) (oi := _) (v := ?_) rfl rfl (by kernel_rfl) (by kernel_rfl) (by kernel_rfl) (fun _ _ _ h => h) (Or.inl ⟨by rfl, ?_⟩) hHeld ?_
                        rotate_left
                        · intro w' hSw; try dsimp only at hSw
                          go_simp
                          try with_reducible rfl
                        try simp only [puts, gets]
                        refine any_next (i := 8) (by kernel_rfl) rfl rfl (fun K hK => ?_)
                        go_simp
                        go_at_call 14
                        refine leq_ts HCK (HAL.out _ (below_trans bR bq1)) hltb hltc HBC ?_
                        intro wq2 bq2
                        replace bq2 : Below woc.heap.size woc wq2 := below_trans bq1 bq2
                        refine hK.out _ _ ?_ (fun hHeld => ?_)
                        · exact HS _ bq2
                        clear hK K
                        refine any_take (by kernel_rfl) (i := 9) (oi := _) (v := ?_) rfl rfl (by kernel_rfl) (by kernel_rfl) (by kernel_rfl) (fun _ _ _ h => h) (Or.inl ⟨by rfl, ?_⟩) hHeld ?_
                        rotate_left
                        · intro w' hSw; try dsimp only at hSw
                          go_simp
                          try with_reducible rfl
                        try simp only [puts, gets]
                        refine any_take (by kernel_rfl) (i := 10) (oi := _) (v := ?_) rfl rfl (by kernel_rfl) (by kernel_rfl) (by kernel_rfl) (fun _ _ _ h => h) (Or.inl ⟨by rfl, ?_⟩) hHeld ?_
                        rotate_left
                        · intro w' hSw; try dsimp only at hSw
                          go_simp
                          try with_reducible rfl
                        try simp only [puts, gets]
                        refine any_take (by kernel_rfl) (i := 11) (oi := _) (v := ?_) rfl rfl (by kernel_rfl) (by kernel_rfl) (by kernel_rfl) (fun _ _ _ h => h) (Or.inl ⟨by rfl, ?_⟩) hHeld ?_
                        rotate_left
                        · intro w' hSw; try dsimp only at hSw
                          go_simp
                          try with_reducible rfl
                        try simp only [puts, gets]
                        refine any_take (by kernel_rfl) (i := 12) (oi := _) (v := ?_) rfl rfl (by kernel_rfl) (by kernel_rfl) (by kernel_rfl) (fun _ _ _ h => h) (Or.inl ⟨by rfl, ?_⟩) hHeld ?_
                        rotate_left
                        · intro w' hSw; try dsimp only at hSw
                          go_simp
                          try with_reducible rfl
                        try simp only [puts, gets]
                        refine any_take (by kernel_rfl) (i := 13) (oi := _) (v := ?_) rfl rfl (by kernel_rfl) (by kernel_rfl) (by kernel_rfl) (fun _ _ _ h => h) (Or.inl ⟨by rfl, ?_⟩) hHeld ?_
                        rotate_left
                        · intro w' hSw; try dsimp only at hSw
                          go_simp
                          try with_reducible rfl
                        try simp only [puts, gets]
                        refine any_next (i := 14) (by kernel_rfl) rfl rfl (fun K hK => ?_)
                        go_simp
                        go_at_call 14
                        refine leq_ts HCK (HAL.out _ (below_trans bR bq2)) hjn hltc HJC ?_
                        intro wq3 bq3
                        replace bq3 : Below woc.heap.size woc wq3 := below_trans bq2 bq3
                        refine hK.out _ _ ?_ (fun hHeld => ?_)
                        · exact HS _ bq3
                        clear hK K
                        refine any_take (by kernel_rfl) (i := 15) (oi := _) (v := ?_) rfl rfl (by kernel_rfl) (by kernel_rfl) (by kernel_rfl) (fun _ _ _ h => h) (Or.inl ⟨by rfl, ?_⟩) hHeld ?_
                        rotate_left
                        · intro w' hSw; try dsimp only at hSw
                          go_simp
                          try with_reducible rfl
                        try simp only [puts, gets]
                        refine any_take (by kernel_rfl) (i := 16) (oi := _) (v := ?_) rfl rfl (by kernel_rfl) (by kernel_rfl) (by kernel_rfl) (fun _ _ _ h => h) (Or.inl ⟨by rfl, ?_⟩) hHeld ?_
                        rotate_left
                        · intro w' hSw; try dsimp only at hSw
                          go_simp
                          try with_reducible rfl
                        try simp only [puts, gets]
                        refine any_take (by kernel_rfl) (i := 17) (oi := _) (v := ?_) rfl rfl (by kernel_rfl) (by kernel_rfl) (by kernel_rfl) (fun _ _ _ h => h) (Or.inl ⟨by rfl, ?_⟩) hHeld ?_
                        rotate_left
                        · intro w' hSw; try dsimp only at hSw
                          go_simp
                          try with_reducible rfl
                        try simp only [puts, gets]
                        refine any_take (by kernel_rfl) (i := 18) (oi := _) (v := ?_) rfl rfl (by kernel_rfl) (by kernel_rfl) (by kernel_rfl) (fun _ _ _ h => h) (Or.inl ⟨by rfl, ?_⟩) hHeld ?_
                        rotate_left
                        · intro w' hSw; try dsimp only at hSw
                          go_simp
                          try with_reducible rfl
                        try simp only [puts, gets]
                        refine any_take (by kernel_rfl) (i := 19) (oi := _) (v := ?_) rfl rfl (by kernel_rfl) (by kernel_rfl) (by kernel_rfl) (fun _ _ _ h => h) (Or.inl ⟨by rfl, ?_⟩) hHeld ?_
                        rotate_left
                        · intro w' hSw; try dsimp only at hSw
                          go_simp
                          try with_reducible rfl
                        try simp only [puts, gets]
                        refine any_take (by kernel_rfl) (i := 20) (oi := _) (v := ?_) rfl rfl (by kernel_rfl) (by kernel_rfl) (by kernel_rfl) (fun _ _ _ h => h) (Or.inl ⟨by rfl, ?_⟩) hHeld ?_
                        rotate_left
                        · intro w' hSw; try dsimp only at hSw
                          go_simp
                          try with_reducible rfl
                        try simp only [puts, gets]
                        refine any_take (by kernel_rfl) (i := 22) (oi := _) (v := ?_) rfl rfl (by kernel_rfl) (by kernel_rfl) (by kernel_rfl) (fun _ _ _ h => h) (Or.inl ⟨by rfl, ?_⟩) hHeld ?_
                        rotate_left
                        · intro w' hSw; try dsimp only at hSw
                          go_simp
                          try with_reducible rfl
                        try simp only [puts, gets]
                        refine any_take (by kernel_rfl) (i := 23) (oi := _) (v := ?_) rfl rfl (by kernel_rfl) (by kernel_rfl) (by kernel_rfl) (fun _ _ _ h => h) (Or.inl ⟨by rfl, ?_⟩) hHeld ?_
                        rotate_left
                        · intro w' hSw; try dsimp only at hSw
                          go_simp
                          try with_reducible rfl
                        try simp only [puts, gets]
                        refine any_take (by kernel_rfl) (i := 24) (oi := _) (v := ?_) rfl rfl (by kernel_rfl) (by kernel_rfl) (by kernel_rfl) (fun _ _ _ h => h) (Or.inl ⟨by rfl, ?_⟩) hHeld ?_
                        rotate_left
                        · intro w' hSw; try dsimp only at hSw
                          go_simp
                          try with_reducible rfl
                        try simp only [puts, gets]
                        refine any_take (by kernel_rfl) (i := 25) (oi := _) (v := ?_) rfl rfl (by kernel_rfl) (by kernel_rfl) (by kernel_rfl) (fun _ _ _ h => h) (Or.inl ⟨by rfl, ?_⟩) hHeld ?_
                        rotate_left
                        · intro w' hSw; try dsimp only at hSw
                          go_simp
                          try with_reducible rfl
                        try simp only [puts, gets]
                        refine any_take (by kernel_rfl) (i := 26) (oi := _) (v := ?_) rfl rfl (by kernel_rfl) (by kernel_rfl) (by kernel_rfl) (fun _ _ _ h => h) (Or.inl ⟨by rfl, ?_⟩) hHeld ?_
                        rotate_left
                        · intro w' hSw; try dsimp only at hSw
                          go_simp
                          try with_reducible rfl
                        try simp only [puts, gets]
                        refine any_next (i := 21) (by kernel_rfl) rfl rfl (fun K hK => ?_)
                        go_simp
                        go_at_call 16
                        refine join_ts HCK (HAL.out _ (below_trans bR bq3)) hjn hltc HX1 ?_
                        intro wq4 bq4
                        replace bq4 : Below woc.heap.size woc wq4 := below_trans bq3 bq4
                        refine hK.out _ _ ?_ (fun hHeld => ?_)
                        · exact HS _ bq4
                        clear hK K
                        refine any_next (i := 27) (by kernel_rfl) rfl rfl (fun K hK => ?_)
                        go_simp
                        go_at_call 16
                        refine join_ts HCK (HAL.out _ (below_trans bR bq4)) hltb hltc HX2 ?_
                        intro wq5 bq5
                        replace bq5 : Below woc.heap.size woc wq5 := below_trans bq4 bq5
                        refine hK.out _ _ ?_ (fun hHeld => ?_)
                        · exact HS _ bq5
                        clear hK K
                        refine any_next (i := 28) (by kernel_rfl) rfl rfl (fun K hK => ?_)
                        go_simp
                        go_at_call 16
                        refine join_ts HCK (HAL.out _ (below_trans bR bq5)) hlta hx2n HX3 ?_
                        intro wq6 bq6
                        replace bq6 : Below woc.heap.size woc wq6 := below_trans bq5 bq6
                        refine hK.out _ _ ?_ (fun hHeld => ?_)
                        · exact HS _ bq6
                        clear hK K
                        refine any_take (by kernel_rfl) (i := 29) (oi := _) (v := ?_) rfl rfl (by kernel_rfl) (by kernel_rfl) (by kernel_rfl) (fun _ _ _ h => h) (Or.inl ⟨by rfl, ?_⟩) hHeld ?_
                        rotate_left
                        · intro w' hSw; try dsimp only at hSw
                          go_simp
                          try with_reducible rfl
                        try simp only [puts, gets]
                        refine any_take (by kernel_rfl) (i := 30) (oi := _) (v := ?_) rfl rfl (by kernel_rfl) (by kernel_rfl) (by kernel_rfl) (fun _ _ _ h => h) (Or.inl ⟨by rfl, ?_⟩) hHeld ?_
                        rotate_left
                        · intro w' hSw; try dsimp only at hSw
                          go_simp
                          try with_reducible rfl
                        try simp only [puts, gets]
                        refine any_done (by kernel_rfl) ?_ _
                        refine NoPanic.normal ?_
                        go_wp2
                        go_meet
                        case rel => exact ⟨rfl, below_trans bR bq6⟩
                  case rest =>
                    clear HS bR
                    obtain ⟨rfl, bR⟩ := hcut
                    go_wp2
                    go_roundw
                    case rel => exact ⟨c + 1, by omega, by go_num, bR⟩
                    case measure => simp [intOf]; omega
                · have e : c = L.elems.length := by omega
                  subst e
                  have hdc : decide (L.elems.length < L.elems.length) = false := decide_eq_false hltc
                  go_wp2
                  go_roundw
                  case rel => exact ⟨b + 1, by omega, by go_num, bR⟩
                  case measure => simp [intOf]; omega
            · have HABx := Lib.hid hab
              have hjb : ((j : Int) == (b : Int)) = true := by
                have := HLJ.out.1 hab
                simp [this]
              have hjb2 : (j == b) = true := by
                have := HLJ.out.1 hab
                simp [this]
              clear hab
              obtain ⟨y0, y1, y2, y3⟩ := Box4.of (block_keep g0 bR)
              go_wp2_with fail
              refine (leq_at HCK (h0.keep (keeps_below (below_trans b0 bR))) (hK.keep (keeps_below (below_trans b0 bR))) (a := a) (b := b) (by omega) (by omega)).mono ?_
              rintro e wx16 ⟨rfl, bN⟩
              rw [HABx.out]
              replace bR := below_trans bR bN
              clear bN y0 y1 y2 y3
              go_wp2
              clear hjb hjb2 jj1 HABx
              go_loopw [8] (fun i wr => ∃ c : Nat, c ≤ L.elems.length ∧ i = .int .i64 c ∧ Below wB.heap.size wB wr) (fun i _ => L.elems.length - (intOf i).toNat)
              case atStart => exact ⟨0, Nat.zero_le _, rfl, bR⟩
              case round =>
                obtain ⟨c, hc, rfl, bR⟩ := hrel
                obtain ⟨woc, rfl⟩ : ∃ wo : World, wo = wr := ⟨_, rfl⟩
                by_cases hltc : c < L.elems.length
                · have hdc : decide (c < L.elems.length) = true := decide_eq_true hltc
                  obtain ⟨x1, hx1n, HX1, HXI1⟩ := join_facts HLAT.out hjn hltc
                  obtain ⟨x2, hx2n, HX2, HXI2⟩ := join_facts HLAT.out hltb hltc
                  obtain ⟨x3, hx3n, HX3, HXI3⟩ := join_facts HLAT.out hlta hx2n
                  have hx13 : x1 = x3 := HLAT.out.join_assoc HJI.out HXI1.out HXI2.out HXI3.out
                  have HLB := Lib.hid (fun h1 h2 => (join_iff.1 HJI.out).2.2.2 c hltc h1 h2)
                  subst hx13
                  have jj2 : ((x1 : Int) != (x1 : Int)) = false := by simp
                  clear HXI1 HXI2 HXI3 HAJ HBJ
                  have HS : ∀ W, Below woc.heap.size woc W → (fun w' => w'.cell? ⟨w.heap.size, 0, none⟩ = some (.string L.name.1) ∧ w'.cell? ⟨w.heap.size, 1, none⟩ = some (.slice ea L.elems.length ec) ∧ w'.cell? ⟨w.heap.size, 2, none⟩ = some (.slice ca L.covers.length cc) ∧ w'.cell? ⟨w.heap.size, 3, none⟩ = some (.int .i64 L.at_)) W := fun W hW => ⟨(Box4.of (block_keep g0 (below_trans bR hW))).c0, (Box4.of (block_keep g0 (below_trans bR hW))).c1, (Box4.of (block_keep g0 (below_trans bR hW))).c2, (Box4.of (block_keep g0 (below_trans bR hW))).c3⟩
                  go_upto_region 19 with fail
                  go_cut [107] from 77 to 107 (fun v107 wx => v107 = .bool false ∧ Below wB.heap.size wB wx)
                  case first =>
                    cases hac : ordL L a c
                    · have HAC := Lib.hid hac
                      clear hac
                      refine wp_region_noPanic ?_
                      refine wp_region_late (fun w' => w'.cell? ⟨w.heap.size, 0, none⟩ = some (.string L.name.1) ∧ w'.cell? ⟨w.heap.size, 1, none⟩ = some (.slice ea L.elems.length ec) ∧ w'.cell? ⟨w.heap.size, 2, none⟩ = some (.slice ca L.covers.length cc) ∧ w'.cell? ⟨w.heap.size, 3, none⟩ = some (.int .i64 L.at_)) 31 (by kernel_rfl) (HS _ (below_drew' (Below.refl _ _))) (fun hHeld => ?_)
                      refine any_take (by kernel_rfl) (i := 0) (oi := _) (v := ?_) rfl rfl (by kernel_rfl) (by kernel_rfl) (by kernel_rfl) (fun _ _ _ h => h) (Or.inl ⟨by rfl, ?_⟩) hHeld ?_
                      rotate_left
                      · intro w' hSw; try dsimp only at hSw
                        go_simp
                        try with_reducible rfl
                      try simp only [puts, gets]
                      refine any_take (by kernel_rfl) (i := 1) (oi := _) (v := ?_) rfl rfl (by kernel_rfl) (by kernel_rfl) (by kernel_rfl) (fun _ _ _ h => h) (Or.inl ⟨by rfl, ?_⟩) hHeld ?_
                      rotate_left
                      · intro w' hSw; try dsimp only at hSw
                        go_simp
                        try with_reducible rfl
                      try simp only [puts, gets]
                      refine any_take (by kernel_rfl) (i := 2) (oi := _) (v := ?_) rfl rfl (by kernel_rfl) (by kernel_rfl) (by kernel_rfl) (fun _ _ _ h => h) (Or.inl ⟨by rfl, ?_⟩) hHeld ?_
                      rotate_left
                      · intro w' hSw; try dsimp only at hSw
                        go_simp
                        try with_reducible rfl
                      try simp only [puts, gets]
                      refine any_next (i := 3) (by kernel_rfl) rfl rfl (fun K hK => ?_)
                      go_simp
                      go_at_call 14
                      refine leq_ts HCK (HAL.out _ (below_trans bR (below_drew' (Below.refl _ _)))) hlta hltc HAC ?_
                      intro wq1 bq1
                      replace bq1 : Below woc.heap.size woc wq1 := below_undrew bq1
                      refine hK.out _ _ ?_ (fun hHeld => ?_)
                      · exact HS _ bq1
                      clear hK K
                      refine any_take (by kernel_rfl) (i := 4) (oi := _) (v := ?_) rfl rfl (by kernel_rfl) (by kernel_rfl) (by kernel_rfl) (fun _ _ _ h => h) (Or.inl ⟨by rfl, ?_⟩) hHeld ?_
                      rotate_left
                      · intro w' hSw; try dsimp only at hSw
                        go_simp
                        try with_reducible rfl
                      try simp only [puts, gets]
                      refine any_take (by kernel_rfl) (i := 5) (oi := _) (v := undef) rfl rfl (by kernel_rfl) (by kernel_rfl) (by kernel_rfl) (fun _ _ _ h => h) (Or.inr ⟨by rfl, rfl⟩) hHeld ?_
                      try simp only [puts, gets]
                      refine any_take (by kernel_rfl) (i := 6) (oi := _) (v := undef) rfl rfl (by kernel_rfl) (by kernel_rfl) (by kernel_rfl) (fun _ _ _ h => h) (Or.inr ⟨by rfl, rfl⟩) hHeld ?_
                      try simp only [puts, gets]
                      refine any_take (by kernel_rfl) (i := 7) (oi := _) (v := undef) rfl rfl (by kernel_rfl) (by kernel_rfl) (by kernel_rfl) (fun _ _ _ h => h) (Or.inr ⟨by rfl, rfl⟩) hHeld ?_
                      try simp only [puts, gets]
                      refine any_take (by kernel_rfl) (i := 8) (oi := _) (v := undef) rfl rfl (by kernel_rfl) (by kernel_rfl) (by kernel_rfl) (fun _ _ _ h => h) (Or.inr ⟨by rfl, rfl⟩) hHeld ?_
                      try simp only [puts, gets]
                      refine any_take (by kernel_rfl) (i := 9) (oi := _) (v := ?_) rfl rfl (by kernel_rfl) (by kernel_rfl) (by kernel_rfl) (fun _ _ _ h => h) (Or.inl ⟨by rfl, ?_⟩) hHeld ?_
                      rotate_left
                      · intro w' hSw; try dsimp only at hSw
                        go_simp
                        try with_reducible rfl
                      try simp only [puts, gets]
                      refine any_take (by kernel_rfl) (i := 10) (oi := _) (v := ?_) rfl rfl (by kernel_rfl) (by kernel_rfl) (by kernel_rfl) (fun _ _ _ h => h) (Or.inl ⟨by rfl, ?_⟩) hHeld ?_
                      rotate_left
                      · intro w' hSw; try dsimp only at hSw
                        go_simp
                        try with_reducible rfl
                      try simp only [puts, gets]
                      refine any_take (by kernel_rfl) (i := 11) (oi := _) (v := undef) rfl rfl (by kernel_rfl) (by kernel_rfl) (by kernel_rfl) (fun _ _ _ h => h) (Or.inr ⟨by rfl, rfl⟩) hHeld ?_
                      try simp only [puts, gets]
                      refine any_take (by kernel_rfl) (i := 12) (oi := _) (v := undef) rfl rfl (by kernel_rfl) (by kernel_rfl) (by kernel_rfl) (fun _ _ _ h => h) (Or.inr ⟨by rfl, rfl⟩) hHeld ?_
                      try simp only [puts, gets]
                      refine any_take (by kernel_rfl) (i := 13) (oi := _) (v := undef) rfl rfl (by kernel_rfl) (by kernel_rfl) (by kernel_rfl) (fun _ _ _ h => h) (Or.inr ⟨by rfl, rfl⟩) hHeld ?_
                      try simp only [puts, gets]
                      refine any_take (by kernel_rfl) (i := 14) (oi := _) (v := undef) rfl rfl (by kernel_rfl) (by kernel_rfl) (by kernel_rfl) (fun _ _ _ h => h) (Or.inr ⟨by rfl, rfl⟩) hHeld ?_
                      try simp only [puts, gets]
                      refine any_take (by kernel_rfl) (i := 15) (oi := _) (v := undef) rfl rfl (by kernel_rfl) (by kernel_rfl) (by kernel_rfl) (fun _ _ _ h => h) (Or.inr ⟨by rfl, rfl⟩) hHeld ?_
                      try simp only [puts, gets]
                      refine any_take (by kernel_rfl) (i := 16) (oi := _) (v := ?_) rfl rfl (by kernel_rfl) (by kernel_rfl) (by kernel_rfl) (fun _ _ _ h => h) (Or.inl ⟨by rfl, ?_⟩) hHeld ?_
                      rotate_left
                      · intro w' hSw; try dsimp only at hSw
                        go_simp
                        try with_reducible rfl
                      try simp only [puts, gets]
                      refine any_take (by kernel_rfl) (i := 17) (oi := _) (v := ?_) rfl rfl (by kernel_rfl) (by kernel_rfl) (by kernel_rfl) (fun _ _ _ h => h) (Or.inl ⟨by rfl, ?_⟩) hHeld ?_
                      rotate_left
                      · intro w' hSw; try dsimp only at hSw
                        go_simp
                        try with_reducible rfl
                      try simp only [puts, gets]
                      refine any_take (by kernel_rfl) (i := 18) (oi := _) (v := ?_) rfl rfl (by kernel_rfl) (by kernel_rfl) (by kernel_rfl) (fun _ _ _ h => h) (Or.inl ⟨by rfl, ?_⟩) hHeld ?_
                      rotate_left
                      · intro w' hSw; try dsimp only at hSw
                        go_simp
                        try with_reducible rfl
                      try simp only [puts, gets]
                      refine any_take (by kernel_rfl) (i := 19) (oi := _) (v := ?_) rfl rfl (by kernel_rfl) (by kernel_rfl) (by kernel_rfl) (fun _ _ _ h => h) (Or.inl ⟨by rfl, ?_⟩) hHeld ?_
                      rotate_left
                      · intro w' hSw; try dsimp only at hSw
                        go_simp
                        try with_reducible rfl
                      try simp only [puts, gets]
                      refine any_take (by kernel_rfl) (i := 20) (oi := _) (v := ?_) rfl rfl (by kernel_rfl) (by kernel_rfl) (by kernel_rfl) (fun _ _ _ h => h) (Or.inl ⟨by rfl, ?_⟩) hHeld ?_
                      rotate_left
                      · intro w' hSw; try dsimp only at hSw
                        go_simp
                        try with_reducible rfl
                      try simp only [puts, gets]
                      refine any_take (by kernel_rfl) (i := 22) (oi := _) (v := ?_) rfl rfl (by kernel_rfl) (by kernel_rfl) (by kernel_rfl) (fun _ _ _ h => h) (Or.inl ⟨by rfl, ?_⟩) hHeld ?_
                      rotate_left
                      · intro w' hSw; try dsimp only at hSw
                        go_simp
                        try with_reducible rfl
                      try simp only [puts, gets]
                      refine any_take (by kernel_rfl) (i := 23) (oi := _) (v := ?_) rfl rfl (by kernel_rfl) (by kernel_rfl) (by kernel_rfl) (fun _ _ _ h => h) (Or.inl ⟨by rfl, ?_⟩) hHeld ?_
                      rotate_left
                      · intro w' hSw; try dsimp only at hSw
                        go_simp
                        try with_reducible rfl
                      try simp only [puts, gets]
                      refine any_take (by kernel_rfl) (i := 24) (oi := _) (v := ?_) rfl rfl (by kernel_rfl) (by kernel_rfl) (by kernel_rfl) (fun _ _ _ h => h) (Or.inl ⟨by rfl, ?_⟩) hHeld ?_
                      rotate_left
                      · intro w' hSw; try dsimp only at hSw
                        go_simp
                        try with_reducible rfl
                      try simp only [puts, gets]
                      refine any_take (by kernel_rfl) (i := 25) (oi := _) (v := ?_) rfl rfl (by kernel_rfl) (by kernel_rfl) (by kernel_rfl) (fun _ _ _ h => h) (Or.inl ⟨by rfl, ?_⟩) hHeld ?_
                      rotate_left
                      · intro w' hSw; try dsimp only at hSw
                        go_simp
                        try with_reducible rfl
                      try simp only [puts, gets]
                      refine any_take (by kernel_rfl) (i := 26) (oi := _) (v := ?_) rfl rfl (by kernel_rfl) (by kernel_rfl) (by kernel_rfl) (fun _ _ _ h => h) (Or.inl ⟨by rfl, ?_⟩) hHeld ?_
                      rotate_left
                      · intro w' hSw; try dsimp only at hSw
                        go_simp
                        try with_reducible rfl
                      try simp only [puts, gets]
                      refine any_next (i := 21) (by kernel_rfl) rfl rfl (fun K hK => ?_)
                      go_simp
                      go_at_call 16
                      refine join_ts HCK (HAL.out _ (below_trans bR bq1)) hjn hltc HX1 ?_
                      intro wq2 bq2
                      replace bq2 : Below woc.heap.size woc wq2 := below_trans bq1 bq2
                      refine hK.out _ _ ?_ (fun hHeld => ?_)
                      · exact HS _ bq2
                      clear hK K
                      refine any_next (i := 27) (by kernel_rfl) rfl rfl (fun K hK => ?_)
                      go_simp
                      go_at_call 16
                      refine join_ts HCK (HAL.out _ (below_trans bR bq2)) hltb hltc HX2 ?_
                      intro wq3 bq3
                      replace bq3 : Below woc.heap.size woc wq3 := below_trans bq2 bq3
                      refine hK.out _ _ ?_ (fun hHeld => ?_)
                      · exact HS _ bq3
                      clear hK K
                      refine any_next (i := 28) (by kernel_rfl) rfl rfl (fun K hK => ?_)
                      go_simp
                      go_at_call 16
                      refine join_ts HCK (HAL.out _ (below_trans bR bq3)) hlta hx2n HX3 ?_
                      intro wq4 bq4
                      replace bq4 : Below woc.heap.size woc wq4 := below_trans bq3 bq4
                      refine hK.out _ _ ?_ (fun hHeld => ?_)
                      · exact HS _ bq4
                      clear hK K
                      refine any_take (by kernel_rfl) (i := 29) (oi := _) (v := ?_) rfl rfl (by kernel_rfl) (by kernel_rfl) (by kernel_rfl) (fun _ _ _ h => h) (Or.inl ⟨by rfl, ?_⟩) hHeld ?_
                      rotate_left
                      · intro w' hSw; try dsimp only at hSw
                        go_simp
                        try with_reducible rfl
                      try simp only [puts, gets]
                      refine any_take (by kernel_rfl) (i := 30) (oi := _) (v := ?_) rfl rfl (by kernel_rfl) (by kernel_rfl) (by kernel_rfl) (fun _ _ _ h => h) (Or.inl ⟨by rfl, ?_⟩) hHeld ?_
                      rotate_left
                      · intro w' hSw; try dsimp only at hSw
                        go_simp
                        try with_reducible rfl
                      try simp only [puts, gets]
                      refine any_done (by kernel_rfl) ?_ _
                      refine NoPanic.normal ?_
                      go_wp2
                      go_meet
                      case rel => exact ⟨rfl, below_trans bR bq4⟩
                    · have HAC := Lib.hid hac
                      clear hac
                      cases hbc : ordL L b c
                      · have HBC := Lib.hid hbc
                        clear hbc
                        refine wp_region_noPanic ?_
                        refine wp_region_late (fun w' => w'.cell? ⟨w.heap.size, 0, none⟩ = some (.string L.name.1) ∧ w'.cell? ⟨w.heap.size, 1, none⟩ = some (.slice ea L.elems.length ec) ∧ w'.cell? ⟨w.heap.size, 2, none⟩ = some (.slice ca L.covers.length cc) ∧ w'.cell? ⟨w.heap.size, 3, none⟩ = some (.int .i64 L.at_)) 31 (by kernel_rfl) (HS _ (below_drew' (Below.refl _ _))) (fun hHeld => ?_)
                        refine any_take (by kernel_rfl) (i := 0) (oi := _) (v := ?_) rfl rfl (by kernel_rfl) (by kernel_rfl) (by kernel_rfl) (fun _ _ _ h => h) (Or.inl ⟨by rfl, ?_⟩) hHeld ?_
                        rotate_left
                        · intro w' hSw; try dsimp only at hSw
                          go_simp
                          try with_reducible rfl
                        try simp only [puts, gets]
                        refine any_take (by kernel_rfl) (i := 1) (oi := _) (v := ?_) rfl rfl (by kernel_rfl) (by kernel_rfl) (by kernel_rfl) (fun _ _ _ h => h) (Or.inl ⟨by rfl, ?_⟩) hHeld ?_
                        rotate_left
                        · intro w' hSw; try dsimp only at hSw
                          go_simp
                          try with_reducible rfl
                        try simp only [puts, gets]
                        refine any_take (by kernel_rfl) (i := 2) (oi := _) (v := ?_) rfl rfl (by kernel_rfl) (by kernel_rfl) (by kernel_rfl) (fun _ _ _ h => h) (Or.inl ⟨by rfl, ?_⟩) hHeld ?_
                        rotate_left
                        · intro w' hSw; try dsimp only at hSw
                          go_simp
                          try with_reducible rfl
                        try simp only [puts, gets]
                        refine any_next (i := 3) (by kernel_rfl) rfl rfl (fun K hK => ?_)
                        go_simp
                        go_at_call 14
                        refine leq_ts HCK (HAL.out _ (below_trans bR (below_drew' (Below.refl _ _)))) hlta hltc HAC ?_
                        intro wq1 bq1
                        replace bq1 : Below woc.heap.size woc wq1 := below_undrew bq1
                        refine hK.out _ _ ?_ (fun hHeld => ?_)
                        · exact HS _ bq1
                        clear hK K
                        refine any_take (by kernel_rfl) (i := 4) (oi := _) (v := ?_) rfl rfl (by kernel_rfl) (by kernel_rfl) (by kernel_rfl) (fun _ _ _ h => h) (Or.inl ⟨by rfl, ?_⟩) hHeld ?_
                        rotate_left
                        · intro w' hSw; try dsimp only at hSw
                          go_simp
                          try with_reducible rfl
                        try simp only [puts, gets]
                        refine any_take (by kernel_rfl) (i := 5) (oi := _) (v := ?_) rfl rfl (by kernel_rfl) (by kernel_rfl) (by kernel_rfl) (fun _ _ _ h => h) (Or.inl ⟨by rfl, ?_⟩) hHeld ?_
                        rotate_left
                        · intro w' hSw; try dsimp only at hSw
                          go_simp
                          try with_reducible rfl
                        try simp only [puts, gets]
                        refine any_take (by kernel_rfl) (i := 6) (oi := _) (v := ?_) rfl rfl (by kernel_rfl) (by kernel_rfl) (by kernel_rfl) (fun _ _ _ h => h) (Or.inl ⟨by rfl, ?_⟩) hHeld ?_
                        rotate_left
                        · intro w' hSw; try dsimp only at hSw
                          go_simp
                          try with_reducible rfl
                        try simp only [puts, gets]
                        refine any_take (by kernel_rfl) (i := 7) (oi := _) (v := ?_) rfl rfl (by kernel_rfl) (by kernel_rfl) (by kernel_rfl) (fun _ _ _ h => h) (Or.inl ⟨by rfl, ?_⟩) hHeld ?_
                        rotate_left
                        · intro w' hSw; try dsimp only at hSw
                          go_simp
                          try with_reducible rfl
                        try simp only [puts, gets]
                        refine any_next (i := 8) (by kernel_rfl) rfl rfl (fun K hK => ?_)
                        go_simp
                        go_at_call 14
                        refine leq_ts HCK (HAL.out _ (below_trans bR bq1)) hltb hltc HBC ?_
                        intro wq2 bq2
                        replace bq2 : Below woc.heap.size woc wq2 := below_trans bq1 bq2
                        refine hK.out _ _ ?_ (fun hHeld => ?_)
                        · exact HS _ bq2
                        clear hK K
                        refine any_take (by kernel_rfl) (i := 9) (oi := _) (v := ?_) rfl rfl (by kernel_rfl) (by kernel_rfl) (by kernel_rfl) (fun _ _ _ h => h) (Or.inl ⟨by rfl, ?_⟩) hHeld ?_
                        rotate_left
                        · intro w' hSw; try dsimp only at hSw
                          go_simp
                          try with_reducible rfl
                        try simp only [puts, gets]
                        refine any_take (by kernel_rfl) (i := 10) (oi := _) (v := ?_) rfl rfl (by kernel_rfl) (by kernel_rfl) (by kernel_rfl) (fun _ _ _ h => h) (Or.inl ⟨by rfl, ?_⟩) hHeld ?_
                        rotate_left
                        · intro w' hSw; try dsimp only at hSw
                          go_simp
                          try with_reducible rfl
                        try simp only [puts, gets]
                        refine any_take (by kernel_rfl) (i := 11) (oi := _) (v := undef) rfl rfl (by kernel_rfl) (by kernel_rfl) (by kernel_rfl) (fun _ _ _ h => h) (Or.inr ⟨by rfl, rfl⟩) hHeld ?_
                        try simp only [puts, gets]
                        refine any_take (by kernel_rfl) (i := 12) (oi := _) (v := undef) rfl rfl (by kernel_rfl) (by kernel_rfl) (by kernel_rfl) (fun _ _ _ h => h) (Or.inr ⟨by rfl, rfl⟩) hHeld ?_
                        try simp only [puts, gets]
                        refine any_take (by kernel_rfl) (i := 13) (oi := _) (v := undef) rfl rfl (by kernel_rfl) (by kernel_rfl) (by kernel_rfl) (fun _ _ _ h => h) (Or.inr ⟨by rfl, rfl⟩) hHeld ?_
                        try simp only [puts, gets]
                        refine any_take (by kernel_rfl) (i := 14) (oi := _) (v := undef) rfl rfl (by kernel_rfl) (by kernel_rfl) (by kernel_rfl) (fun _ _ _ h => h) (Or.inr ⟨by rfl, rfl⟩) hHeld ?_
                        try simp only [puts, gets]
                        refine any_take (by kernel_rfl) (i := 15) (oi := _) (v := undef) rfl rfl (by kernel_rfl) (by kernel_rfl) (by kernel_rfl) (fun _ _ _ h => h) (Or.inr ⟨by rfl, rfl⟩) hHeld ?_
                        try simp only [puts, gets]
                        refine any_take (by kernel_rfl) (i := 16) (oi := _) (v := ?_) rfl rfl (by kernel_rfl) (by kernel_rfl) (by kernel_rfl) (fun _ _ _ h => h) (Or.inl ⟨by rfl, ?_⟩) hHeld ?_
                        rotate_left
                        · intro w' hSw; try dsimp only at hSw
                          go_simp
                          try with_reducible rfl
                        try simp only [puts, gets]
                        refine any_take (by kernel_rfl) (i := 17) (oi := _) (v := ?_) rfl rfl (by kernel_rfl) (by kernel_rfl) (by kernel_rfl) (fun _ _ _ h => h) (Or.inl ⟨by rfl, ?_⟩) hHeld ?_
                        rotate_left
                        · intro w' hSw; try dsimp only at hSw
                          go_simp
                          try with_reducible rfl
                        try simp only [puts, gets]
                        refine any_take (by kernel_rfl) (i := 18) (oi := _) (v := ?_) rfl rfl (by kernel_rfl) (by kernel_rfl) (by kernel_rfl) (fun _ _ _ h => h) (Or.inl ⟨by rfl, ?_⟩) hHeld ?_
                        rotate_left
                        · intro w' hSw; try dsimp only at hSw
                          go_simp
                          try with_reducible rfl
                        try simp only [puts, gets]
                        refine any_take (by kernel_rfl) (i := 19) (oi := _) (v := ?_) rfl rfl (by kernel_rfl) (by kernel_rfl) (by kernel_rfl) (fun _ _ _ h => h) (Or.inl ⟨by rfl, ?_⟩) hHeld ?_
                        rotate_left
                        · intro w' hSw; try dsimp only at hSw
                          go_simp
                          try with_reducible rfl
                        try simp only [puts, gets]
                        refine any_take (by kernel_rfl) (i := 20) (oi := _) (v := ?_) rfl rfl (by kernel_rfl) (by kernel_rfl) (by kernel_rfl) (fun _ _ _ h => h) (Or.inl ⟨by rfl, ?_⟩) hHeld ?_
                        rotate_left
                        · intro w' hSw; try dsimp only at hSw
                          go_simp
                          try with_reducible rfl
                        try simp only [puts, gets]
                        refine any_take (by kernel_rfl) (i := 22) (oi := _) (v := ?_) rfl rfl (by kernel_rfl) (by kernel_rfl) (by kernel_rfl) (fun _ _ _ h => h) (Or.inl ⟨by rfl, ?_⟩) hHeld ?_
                        rotate_left
                        · intro w' hSw; try dsimp only at hSw
                          go_simp
                          try with_reducible rfl
                        try simp only [puts, gets]
                        refine any_take (by kernel_rfl) (i := 23) (oi := _) (v := ?_) rfl rfl (by kernel_rfl) (by kernel_rfl) (by kernel_rfl) (fun _ _ _ h => h) (Or.inl ⟨by rfl, ?_⟩) hHeld ?_
                        rotate_left
                        · intro w' hSw; try dsimp only at hSw
                          go_simp
                          try with_reducible rfl
                        try simp only [puts, gets]
                        refine any_take (by kernel_rfl) (i := 24) (oi := _) (v := ?_) rfl rfl (by kernel_rfl) (by kernel_rfl) (by kernel_rfl) (fun _ _ _ h => h) (Or.inl ⟨by rfl, ?_⟩) hHeld ?_
                        rotate_left
                        · intro w' hSw; try dsimp only at hSw
                          go_simp
                          try with_reducible rfl
                        try simp only [puts, gets]
                        refine any_take (by kernel_rfl) (i := 25) (oi := _) (v := ?_) rfl rfl (by kernel_rfl) (by kernel_rfl) (by kernel_rfl) (fun _ _ _ h => h) (Or.inl ⟨by rfl, ?_⟩) hHeld ?_
                        rotate_left
                        · intro w' hSw; try dsimp only at hSw
                          go_simp
                          try with_reducible rfl
                        try simp only [puts, gets]
                        refine any_take (by kernel_rfl) (i := 26) (oi := _) (v := ?_) rfl rfl (by kernel_rfl) (by kernel_rfl) (by kernel_rfl) (fun _ _ _ h => h) (Or.inl ⟨by rfl, ?_⟩) hHeld ?_
                        rotate_left
                        · intro w' hSw; try dsimp only at hSw
                          go_simp
                          try with_reducible rfl
                        try simp only [puts, gets]
                        refine any_next (i := 21) (by kernel_rfl) rfl rfl (fun K hK => ?_)
                        go_simp
                        go_at_call 16
                        refine join_ts HCK (HAL.out _ (below_trans bR bq2)) hjn hltc HX1 ?_
                        intro wq3 bq3
                        replace bq3 : Below woc.heap.size woc wq3 := below_trans bq2 bq3
                        refine hK.out _ _ ?_ (fun hHeld => ?_)
                        · exact HS _ bq3
                        clear hK K
                        refine any_next (i := 27) (by kernel_rfl) rfl rfl (fun K hK => ?_)
                        go_simp
                        go_at_call 16
                        refine join_ts HCK (HAL.out _ (below_trans bR bq3)) hltb hltc HX2 ?_
                        intro wq4 bq4
                        replace bq4 : Below woc.heap.size woc wq4 := below_trans bq3 bq4
                        refine hK.out _ _ ?_ (fun hHeld => ?_)
                        · exact HS _ bq4
                        clear hK K
                        refine any_next (i := 28) (by kernel_rfl) rfl rfl (fun K hK => ?_)
                        go_simp
                        go_at_call 16
                        refine join_ts HCK (HAL.out _ (below_trans bR bq4)) hlta hx2n HX3 ?_
                        intro wq5 bq5
                        replace bq5 : Below woc.heap.size woc wq5 := below_trans bq4 bq5
                        refine hK.out _ _ ?_ (fun hHeld => ?_)
                        · exact HS _ bq5
                        clear hK K
                        refine any_take (by kernel_rfl) (i := 29) (oi := _) (v := ?_) rfl rfl (by kernel_rfl) (by kernel_rfl) (by kernel_rfl) (fun _ _ _ h => h) (Or.inl ⟨by rfl, ?_⟩) hHeld ?_
                        rotate_left
                        · intro w' hSw; try dsimp only at hSw
                          go_simp
                          try with_reducible rfl
                        try simp only [puts, gets]
                        refine any_take (by kernel_rfl) (i := 30) (oi := _) (v := ?_) rfl rfl (by kernel_rfl) (by kernel_rfl) (by kernel_rfl) (fun _ _ _ h => h) (Or.inl ⟨by rfl, ?_⟩) hHeld ?_
                        rotate_left
                        · intro w' hSw; try dsimp only at hSw
                          go_simp
                          try with_reducible rfl
                        try simp only [puts, gets]
                        refine any_done (by kernel_rfl) ?_ _
                        refine NoPanic.normal ?_
                        go_wp2
                        go_meet
                        case rel => exact ⟨rfl, below_trans bR bq5⟩
                      · have HBC := Lib.hid hbc
                        have HJC := Lib.hid (HLB.out HAC.out hbc)
                        clear hbc
                        refine wp_region_noPanic ?_
                        refine wp_region_late (fun w' => w'.cell? ⟨w.heap.size, 0, none⟩ = some (.string L.name.1) ∧ w'.cell? ⟨w.heap.size, 1, none⟩ = some (.slice ea L.elems.length ec) ∧ w'.cell? ⟨w.heap.size, 2, none⟩ = some (.slice ca L.covers.length cc) ∧ w'.cell? ⟨w.heap.size, 3, none⟩ = some (.int .i64 L.at_)) 31 (by kernel_rfl) (HS _ (below_drew' (Below.refl _ _))) (fun hHeld => ?_)
                        refine any_take (by kernel_rfl) (i := 0) (oi := _) (v := ?_) rfl rfl (by kernel_rfl) (by kernel_rfl) (by kernel_rfl) (fun _ _ _ h => h) (Or.inl ⟨by rfl, ?_⟩) hHeld ?_
                        rotate_left
                        · intro w' hSw; try dsimp only at hSw
                          go_simp
                          try with_reducible rfl
                        try simp only [puts, gets]
                        refine any_take (by kernel_rfl) (i := 1) (oi := _) (v := ?_) rfl rfl (by kernel_rfl) (by kernel_rfl) (by kernel_rfl) (fun _ _ _ h => h) (Or.inl ⟨by rfl, ?_⟩) hHeld ?_
                        rotate_left
                        · intro w' hSw; try dsimp only at hSw
                          go_simp
                          try with_reducible rfl
                        try simp only [puts, gets]
                        refine any_take (by kernel_rfl) (i := 2) (oi := _) (v := ?_) rfl rfl (by kernel_rfl) (by kernel_rfl) (by kernel_rfl) (fun _ _ _ h => h) (Or.inl ⟨by rfl, ?_⟩) hHeld ?_
                        rotate_left
                        · intro w' hSw; try dsimp only at hSw
                          go_simp
                          try with_reducible rfl
                        try simp only [puts, gets]
                        refine any_next (i := 3) (by kernel_rfl) rfl rfl (fun K hK => ?_)
                        go_simp
                        go_at_call 14
                        refine leq_ts HCK (HAL.out _ (below_trans bR (below_drew' (Below.refl _ _)))) hlta hltc HAC ?_
                        intro wq1 bq1
                        replace bq1 : Below woc.heap.size woc wq1 := below_undrew bq1
                        refine hK.out _ _ ?_ (fun hHeld => ?_)
                        · exact HS _ bq1
                        clear hK K
                        refine any_take (by kernel_rfl) (i := 4) (oi := _) (v := ?_) rfl rfl (by kernel_rfl) (by kernel_rfl) (by kernel_rfl) (fun _ _ _ h => h) (Or.inl ⟨by rfl, ?_⟩) hHeld ?_
                        rotate_left
                        · intro w' hSw; try dsimp only at hSw
                          go_simp
                          try with_reducible rfl
                        try simp only [puts, gets]
                        refine any_take (by kernel_rfl) (i := 5) (oi := _) (v := ?_) rfl rfl (by kernel_rfl) (by kernel_rfl) (by kernel_rfl) (fun _ _ _ h => h) (Or.inl ⟨by rfl, ?_⟩) hHeld ?_
                        rotate_left
                        · intro w' hSw; try dsimp only at hSw
                          go_simp
                          try with_reducible rfl
                        try simp only [puts, gets]
                        refine any_take (by kernel_rfl) (i := 6) (oi := _) (v := ?_) rfl rfl (by kernel_rfl) (by kernel_rfl) (by kernel_rfl) (fun _ _ _ h => h) (Or.inl ⟨by rfl, ?_⟩) hHeld ?_
                        rotate_left
                        · intro w' hSw; try dsimp only at hSw
                          go_simp
                          try with_reducible rfl
                        try simp only [puts, gets]
                        refine any_take (by kernel_rfl) (i := 7) (oi := _) (v := ?_) rfl rfl (by kernel_rfl) (by kernel_rfl) (by kernel_rfl) (fun _ _ _ h => h) (Or.inl ⟨by rfl, ?_⟩) hHeld ?_
                        rotate_left
                        · intro w' hSw; try dsimp only at hSw
                          go_simp
                          try with_reducible rfl
                        try simp only [puts, gets]
                        refine any_next (i := 8) (by kernel_rfl) rfl rfl (fun K hK => ?_)
                        go_simp
                        go_at_call 14
                        refine leq_ts HCK (HAL.out _ (below_trans bR bq1)) hltb hltc HBC ?_
                        intro wq2 bq2
                        replace bq2 : Below woc.heap.size woc wq2 := below_trans bq1 bq2
                        refine hK.out _ _ ?_ (fun hHeld => ?_)
                        · exact HS _ bq2
                        clear hK K
                        refine any_take (by kernel_rfl) (i := 9) (oi := _) (v := ?_) rfl rfl (by kernel_rfl) (by kernel_rfl) (by kernel_rfl) (fun _ _ _ h => h) (Or.inl ⟨by rfl, ?_⟩) hHeld ?_
                        rotate_left
                        · intro w' hSw; try dsimp only at hSw
                          go_simp
                          try with_reducible rfl
                        try simp only [puts, gets]
                        refine any_take (by kernel_rfl) (i := 10) (oi := _) (v := ?_) rfl rfl (by kernel_rfl) (by kernel_rfl) (by kernel_rfl) (fun _ _ _ h => h) (Or.inl ⟨by rfl, ?_⟩) hHeld ?_
                        rotate_left
                        · intro w' hSw; try dsimp only at hSw
                          go_simp
                          try with_reducible rfl
                        try simp only [puts, gets]
                        refine any_take (by kernel_rfl) (i := 11) (oi := _) (v := ?_) rfl rfl (by kernel_rfl) (by kernel_rfl) (by kernel_rfl) (fun _ _ _ h => h) (Or.inl ⟨by rfl, ?_⟩) hHeld ?_
                        rotate_left
                        · intro w' hSw; try dsimp only at hSw
                          go_simp
                          try with_reducible rfl
                        try simp only [puts, gets]
                        refine any_take (by kernel_rfl) (i := 12) (oi := _) (v := ?_) rfl rfl (by kernel_rfl) (by kernel_rfl) (by kernel_rfl) (fun _ _ _ h => h) (Or.inl ⟨by rfl, ?_⟩) hHeld ?_
                        rotate_left
                        · intro w' hSw; try dsimp only at hSw
                          go_simp
                          try with_reducible rfl
                        try simp only [puts, gets]
                        refine any_take (by kernel_rfl) (i := 13) (oi := _) (v := ?_) rfl rfl (by kernel_rfl) (by kernel_rfl) (by kernel_rfl) (fun _ _ _ h => h) (Or.inl ⟨by rfl, ?_⟩) hHeld ?_
                        rotate_left
                        · intro w' hSw; try dsimp only at hSw
                          go_simp
                          try with_reducible rfl
                        try simp only [puts, gets]
                        refine any_next (i := 14) (by kernel_rfl) rfl rfl (fun K hK => ?_)
                        go_simp
                        go_at_call 14
                        refine leq_ts HCK (HAL.out _ (below_trans bR bq2)) hjn hltc HJC ?_
                        intro wq3 bq3
                        replace bq3 : Below woc.heap.size woc wq3 := below_trans bq2 bq3
                        refine hK.out _ _ ?_ (fun hHeld => ?_)
                        · exact HS _ bq3
                        clear hK K
                        refine any_take (by kernel_rfl) (i := 15) (oi := _) (v := ?_) rfl rfl (by kernel_rfl) (by kernel_rfl) (by kernel_rfl) (fun _ _ _ h => h) (Or.inl ⟨by rfl, ?_⟩) hHeld ?_
                        rotate_left
                        · intro w' hSw; try dsimp only at hSw
                          go_simp
                          try with_reducible rfl
                        try simp only [puts, gets]
                        refine any_take (by kernel_rfl) (i := 16) (oi := _) (v := ?_) rfl rfl (by kernel_rfl) (by kernel_rfl) (by kernel_rfl) (fun _ _ _ h => h) (Or.inl ⟨by rfl, ?_⟩) hHeld ?_
                        rotate_left
                        · intro w' hSw; try dsimp only at hSw
                          go_simp
                          try with_reducible rfl
                        try simp only [puts, gets]
                        refine any_take (by kernel_rfl) (i := 17) (oi := _) (v := ?_) rfl rfl (by kernel_rfl) (by kernel_rfl) (by kernel_rfl) (fun _ _ _ h => h) (Or.inl ⟨by rfl, ?_⟩) hHeld ?_
                        rotate_left
                        · intro w' hSw; try dsimp only at hSw
                          go_simp
                          try with_reducible rfl
                        try simp only [puts, gets]
                        refine any_take (by kernel_rfl) (i := 18) (oi := _) (v := ?_) rfl rfl (by kernel_rfl) (by kernel_rfl) (by kernel_rfl) (fun _ _ _ h => h) (Or.inl ⟨by rfl, ?_⟩) hHeld ?_
                        rotate_left
                        · intro w' hSw; try dsimp only at hSw
                          go_simp
                          try with_reducible rfl
                        try simp only [puts, gets]
                        refine any_take (by kernel_rfl) (i := 19) (oi := _) (v := ?_) rfl rfl (by kernel_rfl) (by kernel_rfl) (by kernel_rfl) (fun _ _ _ h => h) (Or.inl ⟨by rfl, ?_⟩) hHeld ?_
                        rotate_left
                        · intro w' hSw; try dsimp only at hSw
                          go_simp
                          try with_reducible rfl
                        try simp only [puts, gets]
                        refine any_take (by kernel_rfl) (i := 20) (oi := _) (v := ?_) rfl rfl (by kernel_rfl) (by kernel_rfl) (by kernel_rfl) (fun _ _ _ h => h) (Or.inl ⟨by rfl, ?_⟩) hHeld ?_
                        rotate_left
                        · intro w' hSw; try dsimp only at hSw
                          go_simp
                          try with_reducible rfl
                        try simp only [puts, gets]
                        refine any_take (by kernel_rfl) (i := 22) (oi := _) (v := ?_) rfl rfl (by kernel_rfl) (by kernel_rfl) (by kernel_rfl) (fun _ _ _ h => h) (Or.inl ⟨by rfl, ?_⟩) hHeld ?_
                        rotate_left
                        · intro w' hSw; try dsimp only at hSw
                          go_simp
                          try with_reducible rfl
                        try simp only [puts, gets]
                        refine any_take (by kernel_rfl) (i := 23) (oi := _) (v := ?_) rfl rfl (by kernel_rfl) (by kernel_rfl) (by kernel_rfl) (fun _ _ _ h => h) (Or.inl ⟨by rfl, ?_⟩) hHeld ?_
                        rotate_left
                        · intro w' hSw; try dsimp only at hSw
                          go_simp
                          try with_reducible rfl
                        try simp only [puts, gets]
                        refine any_take (by kernel_rfl) (i := 24) (oi := _) (v := ?_) rfl rfl (by kernel_rfl) (by kernel_rfl) (by kernel_rfl) (fun _ _ _ h => h) (Or.inl ⟨by rfl, ?_⟩) hHeld ?_
                        rotate_left
                        · intro w' hSw; try dsimp only at hSw
                          go_simp
                          try with_reducible rfl
                        try simp only [puts, gets]
                        refine any_take (by kernel_rfl) (i := 25) (oi := _) (v := ?_) rfl rfl (by kernel_rfl) (by kernel_rfl) (by kernel_rfl) (fun _ _ _ h => h) (Or.inl ⟨by rfl, ?_⟩) hHeld ?_
                        rotate_left
                        · intro w' hSw; try dsimp only at hSw
                          go_simp
                          try with_reducible rfl
                        try simp only [puts, gets]
                        refine any_take (by kernel_rfl) (i := 26) (oi := _) (v := ?_) rfl rfl (by kernel_rfl) (by kernel_rfl) (by kernel_rfl) (fun _ _ _ h => h) (Or.inl ⟨by rfl, ?_⟩) hHeld ?_
                        rotate_left
                        · intro w' hSw; try dsimp only at hSw
                          go_simp
                          try with_reducible rfl
                        try simp only [puts, gets]
                        refine any_next (i := 21) (by kernel_rfl) rfl rfl (fun K hK => ?_)
                        go_simp
                        go_at_call 16
                        refine join_ts HCK (HAL.out _ (below_trans bR bq3)) hjn hltc HX1 ?_
                        intro wq4 bq4
                        replace bq4 : Below woc.heap.size woc wq4 := below_trans bq3 bq4
                        refine hK.out _ _ ?_ (fun hHeld => ?_)
                        · exact HS _ bq4
                        clear hK K
                        refine any_next (i := 27) (by kernel_rfl) rfl rfl (fun K hK => ?_)
                        go_simp
                        go_at_call 16
                        refine join_ts HCK (HAL.out _ (below_trans bR bq4)) hltb hltc HX2 ?_
                        intro wq5 bq5
                        replace bq5 : Below woc.heap.size woc wq5 := below_trans bq4 bq5
                        refine hK.out _ _ ?_ (fun hHeld => ?_)
                        · exact HS _ bq5
                        clear hK K
                        refine any_next (i := 28) (by kernel_rfl) rfl rfl (fun K hK => ?_)
                        go_simp
                        go_at_call 16
                        refine join_ts HCK (HAL.out _ (below_trans bR bq5)) hlta hx2n HX3 ?_
                        intro wq6 bq6
                        replace bq6 : Below woc.heap.size woc wq6 := below_trans bq5 bq6
                        refine hK.out _ _ ?_ (fun hHeld => ?_)
                        · exact HS _ bq6
                        clear hK K
                        refine any_take (by kernel_rfl) (i := 29) (oi := _) (v := ?_) rfl rfl (by kernel_rfl) (by kernel_rfl) (by kernel_rfl) (fun _ _ _ h => h) (Or.inl ⟨by rfl, ?_⟩) hHeld ?_
                        rotate_left
                        · intro w' hSw; try dsimp only at hSw
                          go_simp
                          try with_reducible rfl
                        try simp only [puts, gets]
                        refine any_take (by kernel_rfl) (i := 30) (oi := _) (v := ?_) rfl rfl (by kernel_rfl) (by kernel_rfl) (by kernel_rfl) (fun _ _ _ h => h) (Or.inl ⟨by rfl, ?_⟩) hHeld ?_
                        rotate_left
                        · intro w' hSw; try dsimp only at hSw
                          go_simp
                          try with_reducible rfl
                        try simp only [puts, gets]
                        refine any_done (by kernel_rfl) ?_ _
                        refine NoPanic.normal ?_
                        go_wp2
                        go_meet
                        case rel => exact ⟨rfl, below_trans bR bq6⟩
                  case rest =>
                    clear HS bR
                    obtain ⟨rfl, bR⟩ := hcut
                    go_wp2
                    go_roundw
                    case rel => exact ⟨c + 1, by omega, by go_num, bR⟩
                    case measure => simp [intOf]; omega
                · have e : c = L.elems.length := by omega
                  subst e
                  have hdc : decide (L.elems.length < L.elems.length) = false := decide_eq_false hltc
                  go_wp2
                  go_roundw
                  case rel => exact ⟨b + 1, by omega, by go_num, bR⟩
                  case measure => simp [intOf]; omega
          · have e : b = L.elems.length := by omega
            subst e
            have hdb : decide (L.elems.length < L.elems.length) = false := decide_eq_false hltb
            go_wp2
            go_roundw
            case rel => exact ⟨a + 1, by omega, by go_num, bR⟩
            case measure => simp [intOf]; omega
    · have e : a = L.elems.length := by omega
      subst e
      have hda : decide (L.elems.length < L.elems.length) = false := decide_eq_false hlta
      go_wp2
      go_ret
      exact ⟨rfl, below_trans b0 bR⟩
end Go.Proofs.YtkjlflmcojmfgaaDoor
