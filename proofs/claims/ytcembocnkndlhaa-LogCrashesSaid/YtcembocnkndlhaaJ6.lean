/- Parts Ks: words, walks and laws that the claims of this seat share. -/
import Derived.Test.YtcembocnkndlhaaJ5
/- The logs' head: fixed examples. -/
namespace Go.Proofs.Ytcembocnkndlhaa
open Go.RowKit
set_option maxHeartbeats 16000000 in
set_option maxRecDepth 100000 in
theorem head36_any (w : World) : Calls Try.prog 39 #[] w fun e w' => e = .returned (.bool true) ∧ Below w.heap.size w w' := by
  obtain ⟨d1, d2, d3, d4, c, e, H1, n1, H2, H3, H4, HC, HE, R25, E25, R24, E24, E2m, Re5, S0, S1⟩ := log_facts
  go_enter Try.func39, Try.ntmps39
  go_wp2_with fail
  refine (New_any _).mono ?_
  intro e0 w1 hres
  obtain ⟨pa0, pc0, wa0, wc0, rfl, h0, b0⟩ := hres.to (Lib.hid rfl)
  have kc := fun (w : World) (C : Array Value) (n c : Nat) => Lib.run_convert_bytes_const (P := Try.prog) w 26 5 C n c Try.underlying26 Try.underlying5
  go_wp2_with fail
  have hl := lit_marked w1 [97, 98] (2, 3) (by decide)
  have b1 := below_new w1 (.cells #[.int .u8 97, .int .u8 98] 5 (2, 3))
  refine (Append_any _ noDisk 5 _ [97, 98] _ (h0.keep b1) hl (by decide) (by decide)).mono ?_
  intro e1 w2 hres
  obtain ⟨pa1, pc1, wa1, wc1, rfl, h1, b2⟩ := hres.to H1
  have b02 := below_trans b0 (below_trans b1 b2)
  clear hl kc
  have gA := heap_alloc_new w2 (.cells #[.slice pa1 d1.pages.length pc1, .slice wa1 d1.writes.length wc1, .bool d1.down] 25)
  have bA := below_new w2 (.cells #[.slice pa1 d1.pages.length pc1, .slice wa1 d1.writes.length wc1, .bool d1.down] 25)
  obtain ⟨w3, hw3⟩ : ∃ x : World, x = w2.alloc (.cells #[.slice pa1 d1.pages.length pc1, .slice wa1 d1.writes.length wc1, .bool d1.down] 25) := ⟨_, rfl⟩
  rw [← hw3] at gA bA
  go_upto_region 2 with fail
  rw [← hw3]
  clear hw3
  have hmk : ∀ w : World, (Instr.makeSlice 26 (.int .i64 56) (.int .i64 56)).run Try.prog w = .ok (.slice (some ⟨w.heap.size, 0, none⟩) 56 56) (w.alloc (.cells (bytesV (zeros 56)).toArray 5)) := run_makeN 56 (by decide)
  have o1 : OffDisk (fun i => i = w2.heap.size) w3 (.agg #[.slice pa1 d1.pages.length pc1, .slice wa1 d1.writes.length wc1, .bool d1.down]) d1 := h1.off bA (by rintro β rfl; exact Nat.le_refl _)
  obtain ⟨y0, y1, y2, f0, f1, f2⟩ := Box3.of gA
  have hlt3 := block_lt gA
  go_cut [3] from 16 to 21 (fun vt wx => vt = .int .i64 0 ∧ ∃ pa pc wa wc, wx.heap[w2.heap.size]? = some (.cells #[.slice pa d2.pages.length pc, .slice wa d2.writes.length wc, .bool d2.down] 25 (0, 0)) ∧ IsDisk wx (.agg #[.slice pa d2.pages.length pc, .slice wa d2.writes.length wc, .bool d2.down]) d2 ∧ Below w2.heap.size w3 wx)
  case first =>
    have bZ : Below w3.heap.size w3 (w3.alloc (.cells (bytesV (zeros 56)).toArray 5)).drew := (below_new w3 (.cells (bytesV (zeros 56)).toArray 5)).drew
    have hz : IsBytes (w3.alloc (.cells (bytesV (zeros 56)).toArray 5)).drew (.slice (some ⟨w3.heap.size, 0, none⟩) 56 56) (zeros 56) := (lit_marked w3 (zeros 56) (0, 0) (by decide)).keep (Below.refl _ _).drew
    have oZ := o1.keep bZ
    have gZ := block_keep gA bZ
    have hBZ : ∀ β, β = w2.heap.size → β < (w3.alloc (.cells (bytesV (zeros 56)).toArray 5)).drew.heap.size := by rintro β rfl; exact block_lt gZ
    obtain ⟨wz, hwz⟩ : ∃ x : World, x = (w3.alloc (.cells (bytesV (zeros 56)).toArray 5)).drew := ⟨_, rfl⟩
    go_region_with (go_at_call 43; refine (Append_off (fun i => i = w2.heap.size) _ d1 5 _ (zeros 56) _ oZ hBZ hz (by decide) (by omega)).mono ?_; intro e4 w4 hres; obtain ⟨pa2, pc2, wa2, wc2, rfl, h2, b4⟩ := off_to hres H2; obtain ⟨u0, u1, u2, uf0, uf1, uf2⟩ := Box3.of (block_keep gZ b4))
    all_goals
      have bF := ((((bZ.trans (b4.mono bZ.size)).mono (Nat.le_of_lt hlt3)).setCell (p := ⟨w2.heap.size, 0, none⟩) (Nat.le_refl _) (.slice pa2 d2.pages.length pc2)).setCell (p := ⟨w2.heap.size, 1, none⟩) (Nat.le_refl _) (.slice wa2 d2.writes.length wc2)).setCell (p := ⟨w2.heap.size, 2, none⟩) (Nat.le_refl _) (.bool d2.down)
      have hF := (off_set3 h2 rfl (.slice pa2 d2.pages.length pc2) (.slice wa2 d2.writes.length wc2) (.bool d2.down)).is
      have gF := box_set3 (block_keep gZ b4) (.slice pa2 d2.pages.length pc2) (.slice wa2 d2.writes.length wc2) (.bool d2.down)
      go_wp2
      go_meet
      case rel => exact ⟨rfl, _, _, _, _, gF, hF, bF⟩
  case rest =>
    obtain ⟨rfl, pa2, pc2, wa2, wc2, g2, h2, b2x⟩ := hcut
    obtain ⟨w4, rfl⟩ : ∃ wx : World, wx = wc := ⟨_, rfl⟩
    have b0 : Below w.heap.size w w4 := b02.trans ((bA.trans b2x).mono b02.size)
    clear b2x bA gA o1 y0 y1 y2 f0 f1 f2 hlt3 h1 h0 b1 b2 b02 hres
    go_upto_region 3 with fail
    go_cut [5] from 22 to 27 (fun vt wx => vt = .int .i64 2 ∧ Below w4.heap.size w4 wx)
    case first =>
      as_aux_lemma =>
      have hq1 : (zeros 56).length ≤ 1000000 := by decide
      have hq2 : noDisk.writes.length ≤ 1000000 := by decide
      refine wp_region_noPanic ?_
      refine wp_region_late (fun _ => True) 9 (by kernel_rfl) trivial (fun hHeld => ?_)
      obtain ⟨wd, hwd⟩ : ∃ x : World, x = w4.drew := ⟨_, rfl⟩
      have bD : Below w4.heap.size w4 wd := by rw [hwd]; exact below_drew' (Below.refl _ _)
      have hsz := bD.size
      rw [← hwd]
      clear hwd
      refine any_three (i := 0) (j := 1) (k := 6) (by kernel_rfl) rfl rfl rfl rfl rfl rfl (fun K hK => ?_) (fun K hK => ?_) (fun K hK => ?_)
      · go_simp
        go_at_call 31
        refine new_ts ?_
        intro pa5 pc5 wa5 wc5 w5 h5 b5
        replace bD := below_trans bD b5
        refine hK.out _ _ trivial (fun hHeld => ?_)
        clear hK K
        try simp only [puts, gets]
        refine any_two (i := 1) (j := 6) (by kernel_rfl) rfl rfl rfl rfl (fun K hK => ?_) (fun K hK => ?_)
        · go_simp
          obtain ⟨wM, hwM⟩ : ∃ x : World, x = w5.alloc (.cells (bytesV (zeros 56)).toArray 5) := ⟨_, rfl⟩
          have tz := z56 w5
          have bM := below_new w5 (.cells (bytesV (zeros 56)).toArray 5)
          rw [← hwM] at tz bM
          rw [← hwM]
          clear hwM
          replace h5 := h5.keep bM
          replace bD := below_trans bD bM
          refine hK.out _ _ trivial (fun hHeld => ?_)
          clear hK K
          try simp only [puts, gets]
          refine any_two (i := 2) (j := 6) (by kernel_rfl) rfl rfl rfl rfl (fun K hK => ?_) (fun K hK => ?_)
          · go_simp
            go_at_call 43
            refine append_ts h5 tz H3 hq1 hq2 ?_
            intro pa6 pc6 wa6 wc6 w6 h6 b6
            replace h5 := h5.keep b6
            replace tz := tz.keep b6
            replace bD := below_trans bD b6
            refine hK.out _ _ trivial (fun hHeld => ?_)
            clear hK K
            try simp only [puts, gets]
            refine any_take (by kernel_rfl) (i := 3) (oi := _) (v := ?_) rfl rfl (by kernel_rfl) (by kernel_rfl) (by kernel_rfl) (fun _ _ _ h => h) (Or.inl ⟨by rfl, ?_⟩) hHeld ?_
            rotate_left
            · intro w' hSw; try dsimp only at hSw
              go_simp
              try with_reducible rfl
            try simp only [puts, gets]
            refine any_take (by kernel_rfl) (i := 4) (oi := _) (v := ?_) rfl rfl (by kernel_rfl) (by kernel_rfl) (by kernel_rfl) (fun _ _ _ h => h) (Or.inl ⟨by rfl, ?_⟩) hHeld ?_
            rotate_left
            · intro w' hSw; try dsimp only at hSw
              go_simp
              try with_reducible rfl
            try simp only [puts, gets]
            refine any_take (by kernel_rfl) (i := 5) (oi := _) (v := ?_) rfl rfl (by kernel_rfl) (by kernel_rfl) (by kernel_rfl) (fun _ _ _ h => h) (Or.inl ⟨by rfl, ?_⟩) hHeld ?_
            rotate_left
            · intro w' hSw; try dsimp only at hSw
              go_simp
              try with_reducible rfl
            try simp only [puts, gets]
            refine any_next (i := 6) (by kernel_rfl) rfl rfl (fun K hK => ?_)
            have hA := bD.size
            go_simp
            obtain ⟨wA, hwA⟩ : ∃ x : World, x = w6.alloc (.cells #[.slice none 0 0, .slice none 0 0, .bool false] 25) := ⟨_, rfl⟩
            have gA := heap_alloc_new w6 (.cells #[.slice none 0 0, .slice none 0 0, .bool false] 25)
            have bA := below_new w6 (.cells #[.slice none 0 0, .slice none 0 0, .bool false] 25)
            rw [← hwA] at gA bA
            rw [← hwA]
            clear hwA
            replace h5 := h5.keep bA
            replace tz := tz.keep bA
            replace bD := below_trans bD bA
            refine hK.out _ _ trivial (fun hHeld => ?_)
            clear hK K
            try simp only [puts, gets]
            refine any_next (i := 7) (by kernel_rfl) rfl rfl (fun K hK => ?_)
            obtain ⟨u0, u1, u2, uf0, uf1, uf2⟩ := Box3.of gA
            go_simp
            refine hK.out _ _ trivial (fun hHeld => ?_)
            clear hK K
            try simp only [puts, gets]
            refine any_take (by kernel_rfl) (i := 8) (oi := _) (v := ?_) rfl rfl (by kernel_rfl) (by kernel_rfl) (by kernel_rfl) (fun _ _ _ h => h) (Or.inl ⟨by rfl, ?_⟩) hHeld ?_
            rotate_left
            · intro w' hSw; try dsimp only at hSw
              go_simp
              try with_reducible rfl
            try simp only [puts, gets]
            refine any_done (by kernel_rfl) ?_ _
            refine NoPanic.normal ?_
            go_wp2
            go_meet
            case rel => exact ⟨rfl, ((bD.setCell (p := ⟨w6.heap.size, 0, none⟩) hA _).setCell (p := ⟨w6.heap.size, 1, none⟩) hA _).setCell (p := ⟨w6.heap.size, 2, none⟩) hA _⟩
          · have hA := bD.size
            go_simp
            obtain ⟨wA, hwA⟩ : ∃ x : World, x = wM.alloc (.cells #[.slice none 0 0, .slice none 0 0, .bool false] 25) := ⟨_, rfl⟩
            have gA := heap_alloc_new wM (.cells #[.slice none 0 0, .slice none 0 0, .bool false] 25)
            have bA := below_new wM (.cells #[.slice none 0 0, .slice none 0 0, .bool false] 25)
            rw [← hwA] at gA bA
            rw [← hwA]
            clear hwA
            replace h5 := h5.keep bA
            replace tz := tz.keep bA
            replace bD := below_trans bD bA
            refine hK.out _ _ trivial (fun hHeld => ?_)
            clear hK K
            try simp only [puts, gets]
            refine any_next (i := 2) (by kernel_rfl) rfl rfl (fun K hK => ?_)
            go_simp
            go_at_call 43
            refine append_ts h5 tz H3 hq1 hq2 ?_
            intro pa6 pc6 wa6 wc6 w6 h6 b6
            replace h5 := h5.keep b6
            replace tz := tz.keep b6
            replace gA := block_keep gA b6
            replace bD := below_trans bD b6
            refine hK.out _ _ trivial (fun hHeld => ?_)
            clear hK K
            try simp only [puts, gets]
            refine any_take (by kernel_rfl) (i := 3) (oi := _) (v := ?_) rfl rfl (by kernel_rfl) (by kernel_rfl) (by kernel_rfl) (fun _ _ _ h => h) (Or.inl ⟨by rfl, ?_⟩) hHeld ?_
            rotate_left
            · intro w' hSw; try dsimp only at hSw
              go_simp
              try with_reducible rfl
            try simp only [puts, gets]
            refine any_take (by kernel_rfl) (i := 4) (oi := _) (v := ?_) rfl rfl (by kernel_rfl) (by kernel_rfl) (by kernel_rfl) (fun _ _ _ h => h) (Or.inl ⟨by rfl, ?_⟩) hHeld ?_
            rotate_left
            · intro w' hSw; try dsimp only at hSw
              go_simp
              try with_reducible rfl
            try simp only [puts, gets]
            refine any_take (by kernel_rfl) (i := 5) (oi := _) (v := ?_) rfl rfl (by kernel_rfl) (by kernel_rfl) (by kernel_rfl) (fun _ _ _ h => h) (Or.inl ⟨by rfl, ?_⟩) hHeld ?_
            rotate_left
            · intro w' hSw; try dsimp only at hSw
              go_simp
              try with_reducible rfl
            try simp only [puts, gets]
            refine any_next (i := 7) (by kernel_rfl) rfl rfl (fun K hK => ?_)
            obtain ⟨u0, u1, u2, uf0, uf1, uf2⟩ := Box3.of gA
            go_simp
            refine hK.out _ _ trivial (fun hHeld => ?_)
            clear hK K
            try simp only [puts, gets]
            refine any_take (by kernel_rfl) (i := 8) (oi := _) (v := ?_) rfl rfl (by kernel_rfl) (by kernel_rfl) (by kernel_rfl) (fun _ _ _ h => h) (Or.inl ⟨by rfl, ?_⟩) hHeld ?_
            rotate_left
            · intro w' hSw; try dsimp only at hSw
              go_simp
              try with_reducible rfl
            try simp only [puts, gets]
            refine any_done (by kernel_rfl) ?_ _
            refine NoPanic.normal ?_
            go_wp2
            go_meet
            case rel => exact ⟨rfl, ((bD.setCell (p := ⟨wM.heap.size, 0, none⟩) hA _).setCell (p := ⟨wM.heap.size, 1, none⟩) hA _).setCell (p := ⟨wM.heap.size, 2, none⟩) hA _⟩
        · have hA := bD.size
          go_simp
          obtain ⟨wA, hwA⟩ : ∃ x : World, x = w5.alloc (.cells #[.slice none 0 0, .slice none 0 0, .bool false] 25) := ⟨_, rfl⟩
          have gA := heap_alloc_new w5 (.cells #[.slice none 0 0, .slice none 0 0, .bool false] 25)
          have bA := below_new w5 (.cells #[.slice none 0 0, .slice none 0 0, .bool false] 25)
          rw [← hwA] at gA bA
          rw [← hwA]
          clear hwA
          replace h5 := h5.keep bA
          replace bD := below_trans bD bA
          refine hK.out _ _ trivial (fun hHeld => ?_)
          clear hK K
          try simp only [puts, gets]
          refine any_next (i := 1) (by kernel_rfl) rfl rfl (fun K hK => ?_)
          go_simp
          obtain ⟨wM, hwM⟩ : ∃ x : World, x = wA.alloc (.cells (bytesV (zeros 56)).toArray 5) := ⟨_, rfl⟩
          have tz := z56 wA
          have bM := below_new wA (.cells (bytesV (zeros 56)).toArray 5)
          rw [← hwM] at tz bM
          rw [← hwM]
          clear hwM
          replace h5 := h5.keep bM
          replace gA := block_keep gA bM
          replace bD := below_trans bD bM
          refine hK.out _ _ trivial (fun hHeld => ?_)
          clear hK K
          try simp only [puts, gets]
          refine any_next (i := 2) (by kernel_rfl) rfl rfl (fun K hK => ?_)
          go_simp
          go_at_call 43
          refine append_ts h5 tz H3 hq1 hq2 ?_
          intro pa6 pc6 wa6 wc6 w6 h6 b6
          replace h5 := h5.keep b6
          replace tz := tz.keep b6
          replace gA := block_keep gA b6
          replace bD := below_trans bD b6
          refine hK.out _ _ trivial (fun hHeld => ?_)
          clear hK K
          try simp only [puts, gets]
          refine any_take (by kernel_rfl) (i := 3) (oi := _) (v := ?_) rfl rfl (by kernel_rfl) (by kernel_rfl) (by kernel_rfl) (fun _ _ _ h => h) (Or.inl ⟨by rfl, ?_⟩) hHeld ?_
          rotate_left
          · intro w' hSw; try dsimp only at hSw
            go_simp
            try with_reducible rfl
          try simp only [puts, gets]
          refine any_take (by kernel_rfl) (i := 4) (oi := _) (v := ?_) rfl rfl (by kernel_rfl) (by kernel_rfl) (by kernel_rfl) (fun _ _ _ h => h) (Or.inl ⟨by rfl, ?_⟩) hHeld ?_
          rotate_left
          · intro w' hSw; try dsimp only at hSw
            go_simp
            try with_reducible rfl
          try simp only [puts, gets]
          refine any_take (by kernel_rfl) (i := 5) (oi := _) (v := ?_) rfl rfl (by kernel_rfl) (by kernel_rfl) (by kernel_rfl) (fun _ _ _ h => h) (Or.inl ⟨by rfl, ?_⟩) hHeld ?_
          rotate_left
          · intro w' hSw; try dsimp only at hSw
            go_simp
            try with_reducible rfl
          try simp only [puts, gets]
          refine any_next (i := 7) (by kernel_rfl) rfl rfl (fun K hK => ?_)
          obtain ⟨u0, u1, u2, uf0, uf1, uf2⟩ := Box3.of gA
          go_simp
          refine hK.out _ _ trivial (fun hHeld => ?_)
          clear hK K
          try simp only [puts, gets]
          refine any_take (by kernel_rfl) (i := 8) (oi := _) (v := ?_) rfl rfl (by kernel_rfl) (by kernel_rfl) (by kernel_rfl) (fun _ _ _ h => h) (Or.inl ⟨by rfl, ?_⟩) hHeld ?_
          rotate_left
          · intro w' hSw; try dsimp only at hSw
            go_simp
            try with_reducible rfl
          try simp only [puts, gets]
          refine any_done (by kernel_rfl) ?_ _
          refine NoPanic.normal ?_
          go_wp2
          go_meet
          case rel => exact ⟨rfl, ((bD.setCell (p := ⟨w5.heap.size, 0, none⟩) hA _).setCell (p := ⟨w5.heap.size, 1, none⟩) hA _).setCell (p := ⟨w5.heap.size, 2, none⟩) hA _⟩
      · go_simp
        obtain ⟨wM, hwM⟩ : ∃ x : World, x = wd.alloc (.cells (bytesV (zeros 56)).toArray 5) := ⟨_, rfl⟩
        have tz := z56 wd
        have bM := below_new wd (.cells (bytesV (zeros 56)).toArray 5)
        rw [← hwM] at tz bM
        rw [← hwM]
        clear hwM
        replace bD := below_trans bD bM
        refine hK.out _ _ trivial (fun hHeld => ?_)
        clear hK K
        try simp only [puts, gets]
        refine any_two (i := 0) (j := 6) (by kernel_rfl) rfl rfl rfl rfl (fun K hK => ?_) (fun K hK => ?_)
        · go_simp
          go_at_call 31
          refine new_ts ?_
          intro pa5 pc5 wa5 wc5 w5 h5 b5
          replace tz := tz.keep b5
          replace bD := below_trans bD b5
          refine hK.out _ _ trivial (fun hHeld => ?_)
          clear hK K
          try simp only [puts, gets]
          refine any_two (i := 2) (j := 6) (by kernel_rfl) rfl rfl rfl rfl (fun K hK => ?_) (fun K hK => ?_)
          · go_simp
            go_at_call 43
            refine append_ts h5 tz H3 hq1 hq2 ?_
            intro pa6 pc6 wa6 wc6 w6 h6 b6
            replace h5 := h5.keep b6
            replace tz := tz.keep b6
            replace bD := below_trans bD b6
            refine hK.out _ _ trivial (fun hHeld => ?_)
            clear hK K
            try simp only [puts, gets]
            refine any_take (by kernel_rfl) (i := 3) (oi := _) (v := ?_) rfl rfl (by kernel_rfl) (by kernel_rfl) (by kernel_rfl) (fun _ _ _ h => h) (Or.inl ⟨by rfl, ?_⟩) hHeld ?_
            rotate_left
            · intro w' hSw; try dsimp only at hSw
              go_simp
              try with_reducible rfl
            try simp only [puts, gets]
            refine any_take (by kernel_rfl) (i := 4) (oi := _) (v := ?_) rfl rfl (by kernel_rfl) (by kernel_rfl) (by kernel_rfl) (fun _ _ _ h => h) (Or.inl ⟨by rfl, ?_⟩) hHeld ?_
            rotate_left
            · intro w' hSw; try dsimp only at hSw
              go_simp
              try with_reducible rfl
            try simp only [puts, gets]
            refine any_take (by kernel_rfl) (i := 5) (oi := _) (v := ?_) rfl rfl (by kernel_rfl) (by kernel_rfl) (by kernel_rfl) (fun _ _ _ h => h) (Or.inl ⟨by rfl, ?_⟩) hHeld ?_
            rotate_left
            · intro w' hSw; try dsimp only at hSw
              go_simp
              try with_reducible rfl
            try simp only [puts, gets]
            refine any_next (i := 6) (by kernel_rfl) rfl rfl (fun K hK => ?_)
            have hA := bD.size
            go_simp
            obtain ⟨wA, hwA⟩ : ∃ x : World, x = w6.alloc (.cells #[.slice none 0 0, .slice none 0 0, .bool false] 25) := ⟨_, rfl⟩
            have gA := heap_alloc_new w6 (.cells #[.slice none 0 0, .slice none 0 0, .bool false] 25)
            have bA := below_new w6 (.cells #[.slice none 0 0, .slice none 0 0, .bool false] 25)
            rw [← hwA] at gA bA
            rw [← hwA]
            clear hwA
            replace h5 := h5.keep bA
            replace tz := tz.keep bA
            replace bD := below_trans bD bA
            refine hK.out _ _ trivial (fun hHeld => ?_)
            clear hK K
            try simp only [puts, gets]
            refine any_next (i := 7) (by kernel_rfl) rfl rfl (fun K hK => ?_)
            obtain ⟨u0, u1, u2, uf0, uf1, uf2⟩ := Box3.of gA
            go_simp
            refine hK.out _ _ trivial (fun hHeld => ?_)
            clear hK K
            try simp only [puts, gets]
            refine any_take (by kernel_rfl) (i := 8) (oi := _) (v := ?_) rfl rfl (by kernel_rfl) (by kernel_rfl) (by kernel_rfl) (fun _ _ _ h => h) (Or.inl ⟨by rfl, ?_⟩) hHeld ?_
            rotate_left
            · intro w' hSw; try dsimp only at hSw
              go_simp
              try with_reducible rfl
            try simp only [puts, gets]
            refine any_done (by kernel_rfl) ?_ _
            refine NoPanic.normal ?_
            go_wp2
            go_meet
            case rel => exact ⟨rfl, ((bD.setCell (p := ⟨w6.heap.size, 0, none⟩) hA _).setCell (p := ⟨w6.heap.size, 1, none⟩) hA _).setCell (p := ⟨w6.heap.size, 2, none⟩) hA _⟩
          · have hA := bD.size
            go_simp
            obtain ⟨wA, hwA⟩ : ∃ x : World, x = w5.alloc (.cells #[.slice none 0 0, .slice none 0 0, .bool false] 25) := ⟨_, rfl⟩
            have gA := heap_alloc_new w5 (.cells #[.slice none 0 0, .slice none 0 0, .bool false] 25)
            have bA := below_new w5 (.cells #[.slice none 0 0, .slice none 0 0, .bool false] 25)
            rw [← hwA] at gA bA
            rw [← hwA]
            clear hwA
            replace h5 := h5.keep bA
            replace tz := tz.keep bA
            replace bD := below_trans bD bA
            refine hK.out _ _ trivial (fun hHeld => ?_)
            clear hK K
            try simp only [puts, gets]
            refine any_next (i := 2) (by kernel_rfl) rfl rfl (fun K hK => ?_)
            go_simp
            go_at_call 43
            refine append_ts h5 tz H3 hq1 hq2 ?_
            intro pa6 pc6 wa6 wc6 w6 h6 b6
            replace h5 := h5.keep b6
            replace tz := tz.keep b6
            replace gA := block_keep gA b6
            replace bD := below_trans bD b6
            refine hK.out _ _ trivial (fun hHeld => ?_)
            clear hK K
            try simp only [puts, gets]
            refine any_take (by kernel_rfl) (i := 3) (oi := _) (v := ?_) rfl rfl (by kernel_rfl) (by kernel_rfl) (by kernel_rfl) (fun _ _ _ h => h) (Or.inl ⟨by rfl, ?_⟩) hHeld ?_
            rotate_left
            · intro w' hSw; try dsimp only at hSw
              go_simp
              try with_reducible rfl
            try simp only [puts, gets]
            refine any_take (by kernel_rfl) (i := 4) (oi := _) (v := ?_) rfl rfl (by kernel_rfl) (by kernel_rfl) (by kernel_rfl) (fun _ _ _ h => h) (Or.inl ⟨by rfl, ?_⟩) hHeld ?_
            rotate_left
            · intro w' hSw; try dsimp only at hSw
              go_simp
              try with_reducible rfl
            try simp only [puts, gets]
            refine any_take (by kernel_rfl) (i := 5) (oi := _) (v := ?_) rfl rfl (by kernel_rfl) (by kernel_rfl) (by kernel_rfl) (fun _ _ _ h => h) (Or.inl ⟨by rfl, ?_⟩) hHeld ?_
            rotate_left
            · intro w' hSw; try dsimp only at hSw
              go_simp
              try with_reducible rfl
            try simp only [puts, gets]
            refine any_next (i := 7) (by kernel_rfl) rfl rfl (fun K hK => ?_)
            obtain ⟨u0, u1, u2, uf0, uf1, uf2⟩ := Box3.of gA
            go_simp
            refine hK.out _ _ trivial (fun hHeld => ?_)
            clear hK K
            try simp only [puts, gets]
            refine any_take (by kernel_rfl) (i := 8) (oi := _) (v := ?_) rfl rfl (by kernel_rfl) (by kernel_rfl) (by kernel_rfl) (fun _ _ _ h => h) (Or.inl ⟨by rfl, ?_⟩) hHeld ?_
            rotate_left
            · intro w' hSw; try dsimp only at hSw
              go_simp
              try with_reducible rfl
            try simp only [puts, gets]
            refine any_done (by kernel_rfl) ?_ _
            refine NoPanic.normal ?_
            go_wp2
            go_meet
            case rel => exact ⟨rfl, ((bD.setCell (p := ⟨w5.heap.size, 0, none⟩) hA _).setCell (p := ⟨w5.heap.size, 1, none⟩) hA _).setCell (p := ⟨w5.heap.size, 2, none⟩) hA _⟩
        · have hA := bD.size
          go_simp
          obtain ⟨wA, hwA⟩ : ∃ x : World, x = wM.alloc (.cells #[.slice none 0 0, .slice none 0 0, .bool false] 25) := ⟨_, rfl⟩
          have gA := heap_alloc_new wM (.cells #[.slice none 0 0, .slice none 0 0, .bool false] 25)
          have bA := below_new wM (.cells #[.slice none 0 0, .slice none 0 0, .bool false] 25)
          rw [← hwA] at gA bA
          rw [← hwA]
          clear hwA
          replace tz := tz.keep bA
          replace bD := below_trans bD bA
          refine hK.out _ _ trivial (fun hHeld => ?_)
          clear hK K
          try simp only [puts, gets]
          refine any_next (i := 0) (by kernel_rfl) rfl rfl (fun K hK => ?_)
          go_simp
          go_at_call 31
          refine new_ts ?_
          intro pa5 pc5 wa5 wc5 w5 h5 b5
          replace tz := tz.keep b5
          replace gA := block_keep gA b5
          replace bD := below_trans bD b5
          refine hK.out _ _ trivial (fun hHeld => ?_)
          clear hK K
          try simp only [puts, gets]
          refine any_next (i := 2) (by kernel_rfl) rfl rfl (fun K hK => ?_)
          go_simp
          go_at_call 43
          refine append_ts h5 tz H3 hq1 hq2 ?_
          intro pa6 pc6 wa6 wc6 w6 h6 b6
          replace h5 := h5.keep b6
          replace tz := tz.keep b6
          replace gA := block_keep gA b6
          replace bD := below_trans bD b6
          refine hK.out _ _ trivial (fun hHeld => ?_)
          clear hK K
          try simp only [puts, gets]
          refine any_take (by kernel_rfl) (i := 3) (oi := _) (v := ?_) rfl rfl (by kernel_rfl) (by kernel_rfl) (by kernel_rfl) (fun _ _ _ h => h) (Or.inl ⟨by rfl, ?_⟩) hHeld ?_
          rotate_left
          · intro w' hSw; try dsimp only at hSw
            go_simp
            try with_reducible rfl
          try simp only [puts, gets]
          refine any_take (by kernel_rfl) (i := 4) (oi := _) (v := ?_) rfl rfl (by kernel_rfl) (by kernel_rfl) (by kernel_rfl) (fun _ _ _ h => h) (Or.inl ⟨by rfl, ?_⟩) hHeld ?_
          rotate_left
          · intro w' hSw; try dsimp only at hSw
            go_simp
            try with_reducible rfl
          try simp only [puts, gets]
          refine any_take (by kernel_rfl) (i := 5) (oi := _) (v := ?_) rfl rfl (by kernel_rfl) (by kernel_rfl) (by kernel_rfl) (fun _ _ _ h => h) (Or.inl ⟨by rfl, ?_⟩) hHeld ?_
          rotate_left
          · intro w' hSw; try dsimp only at hSw
            go_simp
            try with_reducible rfl
          try simp only [puts, gets]
          refine any_next (i := 7) (by kernel_rfl) rfl rfl (fun K hK => ?_)
          obtain ⟨u0, u1, u2, uf0, uf1, uf2⟩ := Box3.of gA
          go_simp
          refine hK.out _ _ trivial (fun hHeld => ?_)
          clear hK K
          try simp only [puts, gets]
          refine any_take (by kernel_rfl) (i := 8) (oi := _) (v := ?_) rfl rfl (by kernel_rfl) (by kernel_rfl) (by kernel_rfl) (fun _ _ _ h => h) (Or.inl ⟨by rfl, ?_⟩) hHeld ?_
          rotate_left
          · intro w' hSw; try dsimp only at hSw
            go_simp
            try with_reducible rfl
          try simp only [puts, gets]
          refine any_done (by kernel_rfl) ?_ _
          refine NoPanic.normal ?_
          go_wp2
          go_meet
          case rel => exact ⟨rfl, ((bD.setCell (p := ⟨wM.heap.size, 0, none⟩) hA _).setCell (p := ⟨wM.heap.size, 1, none⟩) hA _).setCell (p := ⟨wM.heap.size, 2, none⟩) hA _⟩
      · have hA := bD.size
        go_simp
        obtain ⟨wA, hwA⟩ : ∃ x : World, x = wd.alloc (.cells #[.slice none 0 0, .slice none 0 0, .bool false] 25) := ⟨_, rfl⟩
        have gA := heap_alloc_new wd (.cells #[.slice none 0 0, .slice none 0 0, .bool false] 25)
        have bA := below_new wd (.cells #[.slice none 0 0, .slice none 0 0, .bool false] 25)
        rw [← hwA] at gA bA
        rw [← hwA]
        clear hwA
        replace bD := below_trans bD bA
        refine hK.out _ _ trivial (fun hHeld => ?_)
        clear hK K
        try simp only [puts, gets]
        refine any_two (i := 0) (j := 1) (by kernel_rfl) rfl rfl rfl rfl (fun K hK => ?_) (fun K hK => ?_)
        · go_simp
          go_at_call 31
          refine new_ts ?_
          intro pa5 pc5 wa5 wc5 w5 h5 b5
          replace gA := block_keep gA b5
          replace bD := below_trans bD b5
          refine hK.out _ _ trivial (fun hHeld => ?_)
          clear hK K
          try simp only [puts, gets]
          refine any_next (i := 1) (by kernel_rfl) rfl rfl (fun K hK => ?_)
          go_simp
          obtain ⟨wM, hwM⟩ : ∃ x : World, x = w5.alloc (.cells (bytesV (zeros 56)).toArray 5) := ⟨_, rfl⟩
          have tz := z56 w5
          have bM := below_new w5 (.cells (bytesV (zeros 56)).toArray 5)
          rw [← hwM] at tz bM
          rw [← hwM]
          clear hwM
          replace h5 := h5.keep bM
          replace gA := block_keep gA bM
          replace bD := below_trans bD bM
          refine hK.out _ _ trivial (fun hHeld => ?_)
          clear hK K
          try simp only [puts, gets]
          refine any_next (i := 2) (by kernel_rfl) rfl rfl (fun K hK => ?_)
          go_simp
          go_at_call 43
          refine append_ts h5 tz H3 hq1 hq2 ?_
          intro pa6 pc6 wa6 wc6 w6 h6 b6
          replace h5 := h5.keep b6
          replace tz := tz.keep b6
          replace gA := block_keep gA b6
          replace bD := below_trans bD b6
          refine hK.out _ _ trivial (fun hHeld => ?_)
          clear hK K
          try simp only [puts, gets]
          refine any_take (by kernel_rfl) (i := 3) (oi := _) (v := ?_) rfl rfl (by kernel_rfl) (by kernel_rfl) (by kernel_rfl) (fun _ _ _ h => h) (Or.inl ⟨by rfl, ?_⟩) hHeld ?_
          rotate_left
          · intro w' hSw; try dsimp only at hSw
            go_simp
            try with_reducible rfl
          try simp only [puts, gets]
          refine any_take (by kernel_rfl) (i := 4) (oi := _) (v := ?_) rfl rfl (by kernel_rfl) (by kernel_rfl) (by kernel_rfl) (fun _ _ _ h => h) (Or.inl ⟨by rfl, ?_⟩) hHeld ?_
          rotate_left
          · intro w' hSw; try dsimp only at hSw
            go_simp
            try with_reducible rfl
          try simp only [puts, gets]
          refine any_take (by kernel_rfl) (i := 5) (oi := _) (v := ?_) rfl rfl (by kernel_rfl) (by kernel_rfl) (by kernel_rfl) (fun _ _ _ h => h) (Or.inl ⟨by rfl, ?_⟩) hHeld ?_
          rotate_left
          · intro w' hSw; try dsimp only at hSw
            go_simp
            try with_reducible rfl
          try simp only [puts, gets]
          refine any_next (i := 7) (by kernel_rfl) rfl rfl (fun K hK => ?_)
          obtain ⟨u0, u1, u2, uf0, uf1, uf2⟩ := Box3.of gA
          go_simp
          refine hK.out _ _ trivial (fun hHeld => ?_)
          clear hK K
          try simp only [puts, gets]
          refine any_take (by kernel_rfl) (i := 8) (oi := _) (v := ?_) rfl rfl (by kernel_rfl) (by kernel_rfl) (by kernel_rfl) (fun _ _ _ h => h) (Or.inl ⟨by rfl, ?_⟩) hHeld ?_
          rotate_left
          · intro w' hSw; try dsimp only at hSw
            go_simp
            try with_reducible rfl
          try simp only [puts, gets]
          refine any_done (by kernel_rfl) ?_ _
          refine NoPanic.normal ?_
          go_wp2
          go_meet
          case rel => exact ⟨rfl, ((bD.setCell (p := ⟨wd.heap.size, 0, none⟩) hA _).setCell (p := ⟨wd.heap.size, 1, none⟩) hA _).setCell (p := ⟨wd.heap.size, 2, none⟩) hA _⟩
        · go_simp
          obtain ⟨wM, hwM⟩ : ∃ x : World, x = wA.alloc (.cells (bytesV (zeros 56)).toArray 5) := ⟨_, rfl⟩
          have tz := z56 wA
          have bM := below_new wA (.cells (bytesV (zeros 56)).toArray 5)
          rw [← hwM] at tz bM
          rw [← hwM]
          clear hwM
          replace gA := block_keep gA bM
          replace bD := below_trans bD bM
          refine hK.out _ _ trivial (fun hHeld => ?_)
          clear hK K
          try simp only [puts, gets]
          refine any_next (i := 0) (by kernel_rfl) rfl rfl (fun K hK => ?_)
          go_simp
          go_at_call 31
          refine new_ts ?_
          intro pa5 pc5 wa5 wc5 w5 h5 b5
          replace tz := tz.keep b5
          replace gA := block_keep gA b5
          replace bD := below_trans bD b5
          refine hK.out _ _ trivial (fun hHeld => ?_)
          clear hK K
          try simp only [puts, gets]
          refine any_next (i := 2) (by kernel_rfl) rfl rfl (fun K hK => ?_)
          go_simp
          go_at_call 43
          refine append_ts h5 tz H3 hq1 hq2 ?_
          intro pa6 pc6 wa6 wc6 w6 h6 b6
          replace h5 := h5.keep b6
          replace tz := tz.keep b6
          replace gA := block_keep gA b6
          replace bD := below_trans bD b6
          refine hK.out _ _ trivial (fun hHeld => ?_)
          clear hK K
          try simp only [puts, gets]
          refine any_take (by kernel_rfl) (i := 3) (oi := _) (v := ?_) rfl rfl (by kernel_rfl) (by kernel_rfl) (by kernel_rfl) (fun _ _ _ h => h) (Or.inl ⟨by rfl, ?_⟩) hHeld ?_
          rotate_left
          · intro w' hSw; try dsimp only at hSw
            go_simp
            try with_reducible rfl
          try simp only [puts, gets]
          refine any_take (by kernel_rfl) (i := 4) (oi := _) (v := ?_) rfl rfl (by kernel_rfl) (by kernel_rfl) (by kernel_rfl) (fun _ _ _ h => h) (Or.inl ⟨by rfl, ?_⟩) hHeld ?_
          rotate_left
          · intro w' hSw; try dsimp only at hSw
            go_simp
            try with_reducible rfl
          try simp only [puts, gets]
          refine any_take (by kernel_rfl) (i := 5) (oi := _) (v := ?_) rfl rfl (by kernel_rfl) (by kernel_rfl) (by kernel_rfl) (fun _ _ _ h => h) (Or.inl ⟨by rfl, ?_⟩) hHeld ?_
          rotate_left
          · intro w' hSw; try dsimp only at hSw
            go_simp
            try with_reducible rfl
          try simp only [puts, gets]
          refine any_next (i := 7) (by kernel_rfl) rfl rfl (fun K hK => ?_)
          obtain ⟨u0, u1, u2, uf0, uf1, uf2⟩ := Box3.of gA
          go_simp
          refine hK.out _ _ trivial (fun hHeld => ?_)
          clear hK K
          try simp only [puts, gets]
          refine any_take (by kernel_rfl) (i := 8) (oi := _) (v := ?_) rfl rfl (by kernel_rfl) (by kernel_rfl) (by kernel_rfl) (fun _ _ _ h => h) (Or.inl ⟨by rfl, ?_⟩) hHeld ?_
          rotate_left
          · intro w' hSw; try dsimp only at hSw
            go_simp
            try with_reducible rfl
          try simp only [puts, gets]
          refine any_done (by kernel_rfl) ?_ _
          refine NoPanic.normal ?_
          go_wp2
          go_meet
          case rel => exact ⟨rfl, ((bD.setCell (p := ⟨wd.heap.size, 0, none⟩) hA _).setCell (p := ⟨wd.heap.size, 1, none⟩) hA _).setCell (p := ⟨wd.heap.size, 2, none⟩) hA _⟩
    case rest =>
      obtain ⟨rfl, bN⟩ := hcut
      obtain ⟨w4b, rfl⟩ : ∃ wx : World, wx = wc := ⟨_, rfl⟩
      replace g2 := block_keep g2 bN
      replace h2 := h2.keep bN
      replace b0 := below_trans b0 bN
      clear bN
      go_wp2_with fail
      refine (New_any _).mono ?_
      intro e w11 hres
      obtain ⟨pa7, pc7, wa7, wc7, rfl, h7, bN⟩ := hres.to (Lib.hid rfl)
      replace g2 := block_keep g2 bN
      replace h2 := h2.keep bN
      replace b0 := below_trans b0 bN
      clear bN
      go_wp2_with fail
      refine (Append_any _ noDisk 400 _ [] _ h7 (IsBytes.nil _) (by decide) (by decide)).mono ?_
      intro e w12 hres
      obtain ⟨pa8, pc8, wa8, wc8, rfl, h8, bN⟩ := hres.to H4
      replace g2 := block_keep g2 bN
      replace h2 := h2.keep bN
      replace h7 := h7.keep bN
      replace b0 := below_trans b0 bN
      clear bN
      obtain ⟨w13, hB8⟩ : ∃ x : World, x = w12.alloc (.cells #[(.slice pa8 d4.pages.length pc8), (.slice wa8 d4.writes.length wc8), (.bool d4.down)] 25) := ⟨_, rfl⟩
      have bp : _ ∧ _ := ⟨heap_alloc_new w12 (.cells #[(.slice pa8 d4.pages.length pc8), (.slice wa8 d4.writes.length wc8), (.bool d4.down)] 25), below_new w12 (.cells #[(.slice pa8 d4.pages.length pc8), (.slice wa8 d4.writes.length wc8), (.bool d4.down)] 25)⟩
      rw [← hB8] at bp
      obtain ⟨g8, bN⟩ := bp
      replace g2 := block_keep g2 bN
      replace h2 := h2.keep bN
      replace h7 := h7.keep bN
      replace h8 := h8.keep bN
      replace b0 := below_trans b0 bN
      clear bN
      go_upto_region 5 with fail
      rw [← hB8]
      clear hB8
      clear g8 h8 h7
      obtain ⟨y00, y01, y02, f00, f01, f02⟩ := Box3.of g2
      go_wp2_with fail
      refine (Crash_any _ d2 1 0 _ h2).mono ?_
      intro e w14 hres
      obtain ⟨pa9, pc9, wa9, wc9, rfl, h9, bN⟩ := hres.to HC
      clear y00 y01 y02 f00 f01 f02
      replace g2 := block_keep g2 bN
      replace h2 := h2.keep bN
      replace b0 := below_trans b0 bN
      clear bN
      go_wp2_with fail
      refine (Restart_any _ c _ h9).mono ?_
      intro e w15 hres
      obtain ⟨pa10, pc10, wa10, wc10, rfl, h10, bN⟩ := hres.to HE
      replace g2 := block_keep g2 bN
      replace h2 := h2.keep bN
      replace h9 := h9.keep bN
      replace b0 := below_trans b0 bN
      clear bN
      clear h9
      obtain ⟨w16, hB10⟩ : ∃ x : World, x = w15.alloc (.cells #[(.slice pa10 e.pages.length pc10), (.slice wa10 e.writes.length wc10), (.bool e.down)] 25) := ⟨_, rfl⟩
      have bp : _ ∧ _ := ⟨heap_alloc_new w15 (.cells #[(.slice pa10 e.pages.length pc10), (.slice wa10 e.writes.length wc10), (.bool e.down)] 25), below_new w15 (.cells #[(.slice pa10 e.pages.length pc10), (.slice wa10 e.writes.length wc10), (.bool e.down)] 25)⟩
      rw [← hB10] at bp
      obtain ⟨g10, bN⟩ := bp
      replace g2 := block_keep g2 bN
      replace h2 := h2.keep bN
      replace h10 := h10.keep bN
      replace b0 := below_trans b0 bN
      clear bN
      have gx := g2
      rw [hB10] at gx
      obtain ⟨y0, y1, y2, -, -, -⟩ := Box3.of gx
      clear gx
      go_wp2_with fail
      rw [← hB10]
      clear hB10 y0 y1 y2
      have HS : ∀ w', Below w16.heap.size w16 w' → (fun w' => w'.cell? ⟨w2.heap.size, 0, none⟩ = some (.slice pa2 d2.pages.length pc2) ∧ w'.cell? ⟨w2.heap.size, 1, none⟩ = some (.slice wa2 d2.writes.length wc2) ∧ w'.cell? ⟨w2.heap.size, 2, none⟩ = some (.bool d2.down) ∧ w'.cell? ⟨w15.heap.size, 0, none⟩ = some (.slice pa10 e.pages.length pc10) ∧ w'.cell? ⟨w15.heap.size, 1, none⟩ = some (.slice wa10 e.writes.length wc10) ∧ w'.cell? ⟨w15.heap.size, 2, none⟩ = some (.bool e.down)) w' := fun w' hb => ⟨(Box3.of (block_keep g2 hb)).c0, (Box3.of (block_keep g2 hb)).c1, (Box3.of (block_keep g2 hb)).c2, (Box3.of (block_keep g10 hb)).c0, (Box3.of (block_keep g10 hb)).c1, (Box3.of (block_keep g10 hb)).c2⟩
      have hmk : ∀ (n : Nat), n ≤ 1000 → ∀ w : World, (Instr.makeSlice 26 (.int .i64 n) (.int .i64 n)).run Try.prog w = .ok (.slice (some ⟨w.heap.size, 0, none⟩) n n) (w.alloc (.cells (bytesV (zeros n)).toArray 5)) := fun n hn w => run_makeN n hn w
      have hmk55 : ∀ w : World, (Instr.makeSlice 26 (.int .i64 55) (.int .i64 55)).run Try.prog w = .ok (.slice (some ⟨w.heap.size, 0, none⟩) 55 55) (w.alloc (.cells (bytesV (zeros 55)).toArray 5)) := hmk 55 (by decide)
      have hmk56 : ∀ w : World, (Instr.makeSlice 26 (.int .i64 56) (.int .i64 56)).run Try.prog w = .ok (.slice (some ⟨w.heap.size, 0, none⟩) 56 56) (w.alloc (.cells (bytesV (zeros 56)).toArray 5)) := hmk 56 (by decide)
      have hmk120 : ∀ w : World, (Instr.makeSlice 26 (.int .i64 120) (.int .i64 120)).run Try.prog w = .ok (.slice (some ⟨w.heap.size, 0, none⟩) 120 120) (w.alloc (.cells (bytesV (zeros 120)).toArray 5)) := hmk 120 (by decide)
      clear hmk
      have HP55 : Hid ((pagesN (zeros 55).length : Int) = 1) := Lib.hid (by decide +kernel)
      have HP56 : Hid ((pagesN (zeros 56).length : Int) = 2) := Lib.hid (by decide +kernel)
      have HP120 : Hid ((pagesN (zeros 120).length : Int) = 3) := Lib.hid (by decide +kernel)
      have S0' : Hid ((sumN [] : Int) = 2166136261) := Lib.hid (by rw [S0.out]; rfl)
      have S1' : Hid ((sumN [97] : Int) = 3826002220) := Lib.hid (by rw [S1.out]; rfl)
      clear S0 S1
      simp only [List.append_eq, List.cons_append, List.nil_append]
      refine wp_region_noPanic ?_
      refine wp_region_late (fun w' => w'.cell? ⟨w2.heap.size, 0, none⟩ = some (.slice pa2 d2.pages.length pc2) ∧ w'.cell? ⟨w2.heap.size, 1, none⟩ = some (.slice wa2 d2.writes.length wc2) ∧ w'.cell? ⟨w2.heap.size, 2, none⟩ = some (.bool d2.down) ∧ w'.cell? ⟨w15.heap.size, 0, none⟩ = some (.slice pa10 e.pages.length pc10) ∧ w'.cell? ⟨w15.heap.size, 1, none⟩ = some (.slice wa10 e.writes.length wc10) ∧ w'.cell? ⟨w15.heap.size, 2, none⟩ = some (.bool e.down)) 76 (by kernel_rfl) (HS _ (below_drew' (Below.refl _ _))) (fun hHeld => ?_)
      have bD : Below w16.heap.size w16 w16.drew := below_drew' (Below.refl _ _)
      obtain ⟨wd, hwd⟩ : ∃ x : World, x = w16.drew := ⟨_, rfl⟩
      rw [← hwd] at bD
      rw [← hwd]
      clear hwd
      replace hHeld := HS _ bD
      try dsimp only at hHeld
      refine any_take (by kernel_rfl) (i := 0) (oi := _) (v := ?_) rfl rfl (by kernel_rfl) (by kernel_rfl) (by kernel_rfl) (fun _ _ _ h => h) (Or.inl ⟨by rfl, ?_⟩) hHeld ?_
      rotate_left
      · intro w' hSw; try dsimp only at hSw
        go_simp
        try with_reducible rfl
      try simp only [puts, gets]
      refine any_take (by kernel_rfl) (i := 1) (oi := _) (v := ?_) rfl rfl (by kernel_rfl) (by kernel_rfl) (by kernel_rfl) (fun _ _ _ h => h) (Or.inl ⟨by rfl, ?_⟩) hHeld ?_
      rotate_left
      · intro w' hSw; try dsimp only at hSw
        go_simp
        try with_reducible rfl
      try simp only [puts, gets]
      refine any_take (by kernel_rfl) (i := 2) (oi := _) (v := ?_) rfl rfl (by kernel_rfl) (by kernel_rfl) (by kernel_rfl) (fun _ _ _ h => h) (Or.inl ⟨by rfl, ?_⟩) hHeld ?_
      rotate_left
      · intro w' hSw; try dsimp only at hSw
        go_simp
        try with_reducible rfl
      try simp only [puts, gets]
      refine any_take (by kernel_rfl) (i := 3) (oi := _) (v := ?_) rfl rfl (by kernel_rfl) (by kernel_rfl) (by kernel_rfl) (fun _ _ _ h => h) (Or.inl ⟨by rfl, ?_⟩) hHeld ?_
      rotate_left
      · intro w' hSw; try dsimp only at hSw
        go_simp
        try with_reducible rfl
      try simp only [puts, gets]
      refine any_take (by kernel_rfl) (i := 4) (oi := _) (v := ?_) rfl rfl (by kernel_rfl) (by kernel_rfl) (by kernel_rfl) (fun _ _ _ h => h) (Or.inl ⟨by rfl, ?_⟩) hHeld ?_
      rotate_left
      · intro w' hSw; try dsimp only at hSw
        go_simp
        try with_reducible rfl
      try simp only [puts, gets]
      refine any_take (by kernel_rfl) (i := 5) (oi := _) (v := ?_) rfl rfl (by kernel_rfl) (by kernel_rfl) (by kernel_rfl) (fun _ _ _ h => h) (Or.inl ⟨by rfl, ?_⟩) hHeld ?_
      rotate_left
      · intro w' hSw; try dsimp only at hSw
        go_simp
        try with_reducible rfl
      try simp only [puts, gets]
      refine any_take (by kernel_rfl) (i := 6) (oi := _) (v := ?_) rfl rfl (by kernel_rfl) (by kernel_rfl) (by kernel_rfl) (fun _ _ _ h => h) (Or.inl ⟨by rfl, ?_⟩) hHeld ?_
      rotate_left
      · intro w' hSw; try dsimp only at hSw
        go_simp
        try with_reducible rfl
      try simp only [puts, gets]
      refine any_merge (fun f d a w => ∃ v44 v45 v46 v47 v48 : Value, f = 63 ∧ d = #[true, true, true, true, true, true, true, true, true, true, true, true, true, false, false, false, false, false, false, false, false, false, false, false, false, false, false, false, false, false, false, false, false, false, false, false, false, false, false, false, false, false, false, false, false, false, false, false, false, false, false, false, false, false, false, false, false, false, false, false, false, false, false, false, false, false, false, false, false, false, false, false, false, false, false, false] ∧ a = { tmps := #[Value.bool false, Value.pointer (some { block := w2.heap.size, off := 0 }), Value.int IntKind.i64 0, Value.int IntKind.i64 0, u4, Value.int IntKind.i64 2, Value.pointer (some { block := w12.heap.size, off := 0 }), Value.int IntKind.i64 1, Value.pointer (some { block := w15.heap.size, off := 0 }), Value.tuple #[Value.agg #[Value.slice pa1 d1.pages.length pc1, Value.slice wa1 d1.writes.length wc1, Value.bool d1.down], Value.int IntKind.i64 0], Value.agg #[Value.slice pa0 noDisk.pages.length pc0, Value.slice wa0 noDisk.writes.length wc0, Value.bool noDisk.down], Value.slice (some { block := w1.heap.size, off := 0 }) 2 2, Value.slice (some { block := w1.heap.size, off := 0 }) 2 2, Value.tuple #[Value.agg #[Value.slice pa1 d1.pages.length pc1, Value.slice wa1 d1.writes.length wc1, Value.bool d1.down], Value.int IntKind.i64 0], Value.agg #[Value.slice pa1 d1.pages.length pc1, Value.slice wa1 d1.writes.length wc1, Value.bool d1.down], Value.int IntKind.i64 0, u16, u17, u18, u19, u20, u21, u22, u23, u24, u25, u26, u27, Value.tuple #[Value.agg #[Value.slice pa8 d4.pages.length pc8, Value.slice wa8 d4.writes.length wc8, Value.bool d4.down], Value.int IntKind.i64 1], Value.agg #[Value.slice pa7 noDisk.pages.length pc7, Value.slice wa7 noDisk.writes.length wc7, Value.bool noDisk.down], Value.tuple #[Value.agg #[Value.slice pa8 d4.pages.length pc8, Value.slice wa8 d4.writes.length wc8, Value.bool d4.down], Value.int IntKind.i64 1], Value.agg #[Value.slice pa8 d4.pages.length pc8, Value.slice wa8 d4.writes.length wc8, Value.bool d4.down], Value.int IntKind.i64 1, Value.agg #[Value.slice pa2 d2.pages.length pc2, Value.slice wa2 d2.writes.length wc2, Value.bool d2.down], Value.agg #[Value.slice pa9 c.pages.length pc9, Value.slice wa9 c.writes.length wc9, Value.bool c.down], Value.agg #[Value.slice pa10 e.pages.length pc10, Value.slice wa10 e.writes.length wc10, Value.bool e.down], Value.int .i64 0, Value.bool true, Value.bool true, Value.int .i64 0, Value.bool true, Value.bool true, Value.bool true, Value.agg #[.slice pa2 d2.pages.length pc2, .slice wa2 d2.writes.length wc2, .bool d2.down], v44, v45, v46, v47, v48, undef, undef, undef, undef, undef, undef, undef, undef, undef, undef, undef, undef, undef, undef, undef, undef, undef, undef, undef, undef, undef, undef, undef, undef, undef, undef, undef, undef, undef, undef, undef, undef, undef, undef, undef, undef, undef, undef, undef, undef, undef, undef, undef, undef, undef, undef, undef, undef, undef, undef, undef, undef, undef, undef, undef, undef, undef, undef, undef, undef, undef, undef], defers := [] } ∧ IsPages w v44 [[97, 98], zeros 56] ∧ IsPages w v48 [[97, 98], zeros 56] ∧ Below w16.heap.size w16 w) ?_ ?_
      rotate_left
      · intro hG
        as_aux_lemma =>
        refine any_take (by kernel_rfl) (i := 7) (oi := _) (v := ?_) rfl rfl (by kernel_rfl) (by kernel_rfl) (by kernel_rfl) (fun _ _ _ h => h) (Or.inl ⟨by rfl, ?_⟩) hHeld ?_
        rotate_left
        · intro w' hSw; try dsimp only at hSw
          go_simp
          try with_reducible rfl
        try simp only [puts, gets]
        refine any_three (i := 8) (j := 9) (k := 11) (by kernel_rfl) rfl rfl rfl rfl rfl rfl (fun K hK => ?_) (fun K hK => ?_) (fun K hK => ?_)
        · go_simp
          go_at_call 41
          refine records_tu (h2.keep bD) R25 ?_
          intro v44 wR p44 bC
          replace bD := below_trans bD bC
          clear bC
          refine hK.out _ _ (HS _ bD) (fun hHeld => ?_)
          clear hK K
          try simp only [puts, gets]
          refine any_two (i := 9) (j := 11) (by kernel_rfl) rfl rfl rfl rfl (fun K hK => ?_) (fun K hK => ?_)
          · have hA := bD.size
            go_simp
            have gB : (wR.alloc (.cells #[.int .u8 97, .int .u8 98] 5)).heap[wR.heap.size]? = some (.cells (bytesV [97, 98]).toArray 5) := heap_alloc_new wR _
            have bB := below_new wR (.cells #[.int .u8 97, .int .u8 98] 5)
            obtain ⟨wB, hw⟩ : ∃ x : World, x = wR.alloc (.cells #[.int .u8 97, .int .u8 98] 5) := ⟨_, rfl⟩
            rw [← hw] at gB bB
            rw [← hw]
            clear hw
            replace p44 := IsPages.keep p44 bB
            replace bD := below_trans bD bB
            refine hK.out _ _ (HS _ bD) (fun hHeld => ?_)
            clear hK K
            try simp only [puts, gets]
            refine any_two (i := 10) (j := 11) (by kernel_rfl) rfl rfl rfl rfl (fun K hK => ?_) (fun K hK => ?_)
            · have t46 := box_bytes (l := [97, 98]) gB (by decide)
              obtain ⟨kz, hcv⟩ := run_convert_mark wB wR.heap.size _ 2 2 gB
              have kF := freeze_keeps wB ⟨wR.heap.size, kz, none⟩ 1
              replace bD := below_mark bD (g := wR.heap.size) (k := kz) hA
              go_simp
              clear hcv
              obtain ⟨wF, hw⟩ : ∃ x : World, x = wB.freeze ⟨wR.heap.size, kz, none⟩ 1 := ⟨_, rfl⟩
              rw [← hw] at kF bD
              rw [← hw]
              clear hw gB
              replace p44 := p44.keeps kF
              replace t46 := IsRows.keep t46 kF
              clear kF
              refine hK.out _ _ (HS _ bD) (fun hHeld => ?_)
              clear hK K
              try simp only [puts, gets]
              refine any_next (i := 11) (by kernel_rfl) rfl rfl (fun K hK => ?_)
              go_simp
              obtain ⟨wM, hw⟩ : ∃ x : World, x = wF.alloc (.cells (bytesV (zeros 56)).toArray 5) := ⟨_, rfl⟩
              have t47 := zN 56 (by decide) wF
              have bM := below_new wF (.cells (bytesV (zeros 56)).toArray 5)
              rw [← hw] at t47 bM
              rw [← hw]
              clear hw
              replace p44 := IsPages.keep p44 bM
              replace t46 := IsBytes.keep t46 bM
              replace bD := below_trans bD bM
              refine hK.out _ _ (HS _ bD) (fun hHeld => ?_)
              clear hK K
              try simp only [puts, gets]
              refine any_next (i := 12) (by kernel_rfl) rfl rfl (fun K hK => ?_)
              go_simp
              have pL := lit_pages wM [(.slice (some ⟨wR.heap.size, 0, none⟩) 2 2), (.slice (some ⟨wF.heap.size, 0, none⟩) 56 56)] [[97, 98], zeros 56] rfl (by decide) (by
                intro i u l hu hl
                rcases i with _ | _ | i
                · simp at hu hl; subst hu hl; exact t46
                · simp at hu hl; subst hu hl; exact t47
                · simp at hu)
              have bM := below_new wM (.cells #[(.slice (some ⟨wR.heap.size, 0, none⟩) 2 2), (.slice (some ⟨wF.heap.size, 0, none⟩) 56 56)] 26)
              obtain ⟨wL, hw⟩ : ∃ x : World, x = wM.alloc (.cells #[(.slice (some ⟨wR.heap.size, 0, none⟩) 2 2), (.slice (some ⟨wF.heap.size, 0, none⟩) 56 56)] 26) := ⟨_, rfl⟩
              change IsPages (wM.alloc (.cells #[(.slice (some ⟨wR.heap.size, 0, none⟩) 2 2), (.slice (some ⟨wF.heap.size, 0, none⟩) 56 56)] 26)) (.slice (some ⟨wM.heap.size, 0, none⟩) 2 2) _ at pL
              rw [← hw] at pL bM
              rw [← hw]
              clear hw t46 t47
              replace p44 := IsPages.keep p44 bM
              replace bD := below_trans bD bM
              refine hK.out _ _ (HS _ bD) (fun hHeld => ?_)
              clear hK K
              try simp only [puts, gets]
              exact hG _ _ _ _ ⟨_, _, _, _, _, rfl, by kernel_rfl, rfl, p44, pL, bD⟩
            · go_simp
              obtain ⟨wM, hw⟩ : ∃ x : World, x = wB.alloc (.cells (bytesV (zeros 56)).toArray 5) := ⟨_, rfl⟩
              have t47 := zN 56 (by decide) wB
              have bM := below_new wB (.cells (bytesV (zeros 56)).toArray 5)
              rw [← hw] at t47 bM
              rw [← hw]
              clear hw
              replace p44 := IsPages.keep p44 bM
              replace gB := block_keep gB bM
              replace bD := below_trans bD bM
              refine hK.out _ _ (HS _ bD) (fun hHeld => ?_)
              clear hK K
              try simp only [puts, gets]
              refine any_next (i := 10) (by kernel_rfl) rfl rfl (fun K hK => ?_)
              have t46 := box_bytes (l := [97, 98]) gB (by decide)
              obtain ⟨kz, hcv⟩ := run_convert_mark wM wR.heap.size _ 2 2 gB
              have kF := freeze_keeps wM ⟨wR.heap.size, kz, none⟩ 1
              replace bD := below_mark bD (g := wR.heap.size) (k := kz) hA
              go_simp
              clear hcv
              obtain ⟨wF, hw⟩ : ∃ x : World, x = wM.freeze ⟨wR.heap.size, kz, none⟩ 1 := ⟨_, rfl⟩
              rw [← hw] at kF bD
              rw [← hw]
              clear hw gB
              replace p44 := p44.keeps kF
              replace t47 := IsRows.keep t47 kF
              replace t46 := IsRows.keep t46 kF
              clear kF
              refine hK.out _ _ (HS _ bD) (fun hHeld => ?_)
              clear hK K
              try simp only [puts, gets]
              refine any_next (i := 12) (by kernel_rfl) rfl rfl (fun K hK => ?_)
              go_simp
              have pL := lit_pages wF [(.slice (some ⟨wR.heap.size, 0, none⟩) 2 2), (.slice (some ⟨wB.heap.size, 0, none⟩) 56 56)] [[97, 98], zeros 56] rfl (by decide) (by
                intro i u l hu hl
                rcases i with _ | _ | i
                · simp at hu hl; subst hu hl; exact t46
                · simp at hu hl; subst hu hl; exact t47
                · simp at hu)
              have bM := below_new wF (.cells #[(.slice (some ⟨wR.heap.size, 0, none⟩) 2 2), (.slice (some ⟨wB.heap.size, 0, none⟩) 56 56)] 26)
              obtain ⟨wL, hw⟩ : ∃ x : World, x = wF.alloc (.cells #[(.slice (some ⟨wR.heap.size, 0, none⟩) 2 2), (.slice (some ⟨wB.heap.size, 0, none⟩) 56 56)] 26) := ⟨_, rfl⟩
              change IsPages (wF.alloc (.cells #[(.slice (some ⟨wR.heap.size, 0, none⟩) 2 2), (.slice (some ⟨wB.heap.size, 0, none⟩) 56 56)] 26)) (.slice (some ⟨wF.heap.size, 0, none⟩) 2 2) _ at pL
              rw [← hw] at pL bM
              rw [← hw]
              clear hw t46 t47
              replace p44 := IsPages.keep p44 bM
              replace bD := below_trans bD bM
              refine hK.out _ _ (HS _ bD) (fun hHeld => ?_)
              clear hK K
              try simp only [puts, gets]
              exact hG _ _ _ _ ⟨_, _, _, _, _, rfl, by kernel_rfl, rfl, p44, pL, bD⟩
          · go_simp
            obtain ⟨wM, hw⟩ : ∃ x : World, x = wR.alloc (.cells (bytesV (zeros 56)).toArray 5) := ⟨_, rfl⟩
            have t47 := zN 56 (by decide) wR
            have bM := below_new wR (.cells (bytesV (zeros 56)).toArray 5)
            rw [← hw] at t47 bM
            rw [← hw]
            clear hw
            replace p44 := IsPages.keep p44 bM
            replace bD := below_trans bD bM
            refine hK.out _ _ (HS _ bD) (fun hHeld => ?_)
            clear hK K
            try simp only [puts, gets]
            refine any_next (i := 9) (by kernel_rfl) rfl rfl (fun K hK => ?_)
            have hA := bD.size
            go_simp
            have gB : (wM.alloc (.cells #[.int .u8 97, .int .u8 98] 5)).heap[wM.heap.size]? = some (.cells (bytesV [97, 98]).toArray 5) := heap_alloc_new wM _
            have bB := below_new wM (.cells #[.int .u8 97, .int .u8 98] 5)
            obtain ⟨wB, hw⟩ : ∃ x : World, x = wM.alloc (.cells #[.int .u8 97, .int .u8 98] 5) := ⟨_, rfl⟩
            rw [← hw] at gB bB
            rw [← hw]
            clear hw
            replace p44 := IsPages.keep p44 bB
            replace t47 := IsBytes.keep t47 bB
            replace bD := below_trans bD bB
            refine hK.out _ _ (HS _ bD) (fun hHeld => ?_)
            clear hK K
            try simp only [puts, gets]
            refine any_next (i := 10) (by kernel_rfl) rfl rfl (fun K hK => ?_)
            have t46 := box_bytes (l := [97, 98]) gB (by decide)
            obtain ⟨kz, hcv⟩ := run_convert_mark wB wM.heap.size _ 2 2 gB
            have kF := freeze_keeps wB ⟨wM.heap.size, kz, none⟩ 1
            replace bD := below_mark bD (g := wM.heap.size) (k := kz) hA
            go_simp
            clear hcv
            obtain ⟨wF, hw⟩ : ∃ x : World, x = wB.freeze ⟨wM.heap.size, kz, none⟩ 1 := ⟨_, rfl⟩
            rw [← hw] at kF bD
            rw [← hw]
            clear hw gB
            replace p44 := p44.keeps kF
            replace t47 := IsRows.keep t47 kF
            replace t46 := IsRows.keep t46 kF
            clear kF
            refine hK.out _ _ (HS _ bD) (fun hHeld => ?_)
            clear hK K
            try simp only [puts, gets]
            refine any_next (i := 12) (by kernel_rfl) rfl rfl (fun K hK => ?_)
            go_simp
            have pL := lit_pages wF [(.slice (some ⟨wM.heap.size, 0, none⟩) 2 2), (.slice (some ⟨wR.heap.size, 0, none⟩) 56 56)] [[97, 98], zeros 56] rfl (by decide) (by
              intro i u l hu hl
              rcases i with _ | _ | i
              · simp at hu hl; subst hu hl; exact t46
              · simp at hu hl; subst hu hl; exact t47
              · simp at hu)
            have bM := below_new wF (.cells #[(.slice (some ⟨wM.heap.size, 0, none⟩) 2 2), (.slice (some ⟨wR.heap.size, 0, none⟩) 56 56)] 26)
            obtain ⟨wL, hw⟩ : ∃ x : World, x = wF.alloc (.cells #[(.slice (some ⟨wM.heap.size, 0, none⟩) 2 2), (.slice (some ⟨wR.heap.size, 0, none⟩) 56 56)] 26) := ⟨_, rfl⟩
            change IsPages (wF.alloc (.cells #[(.slice (some ⟨wM.heap.size, 0, none⟩) 2 2), (.slice (some ⟨wR.heap.size, 0, none⟩) 56 56)] 26)) (.slice (some ⟨wF.heap.size, 0, none⟩) 2 2) _ at pL
            rw [← hw] at pL bM
            rw [← hw]
            clear hw t46 t47
            replace p44 := IsPages.keep p44 bM
            replace bD := below_trans bD bM
            refine hK.out _ _ (HS _ bD) (fun hHeld => ?_)
            clear hK K
            try simp only [puts, gets]
            exact hG _ _ _ _ ⟨_, _, _, _, _, rfl, by kernel_rfl, rfl, p44, pL, bD⟩
        · have hA := bD.size
          go_simp
          have gB : (wd.alloc (.cells #[.int .u8 97, .int .u8 98] 5)).heap[wd.heap.size]? = some (.cells (bytesV [97, 98]).toArray 5) := heap_alloc_new wd _
          have bB := below_new wd (.cells #[.int .u8 97, .int .u8 98] 5)
          obtain ⟨wB, hw⟩ : ∃ x : World, x = wd.alloc (.cells #[.int .u8 97, .int .u8 98] 5) := ⟨_, rfl⟩
          rw [← hw] at gB bB
          rw [← hw]
          clear hw
          replace bD := below_trans bD bB
          refine hK.out _ _ (HS _ bD) (fun hHeld => ?_)
          clear hK K
          try simp only [puts, gets]
          refine any_three (i := 8) (j := 10) (k := 11) (by kernel_rfl) rfl rfl rfl rfl rfl rfl (fun K hK => ?_) (fun K hK => ?_) (fun K hK => ?_)
          · go_simp
            go_at_call 41
            refine records_tu (h2.keep bD) R25 ?_
            intro v44 wR p44 bC
            replace gB := block_keep gB bC
            replace bD := below_trans bD bC
            clear bC
            refine hK.out _ _ (HS _ bD) (fun hHeld => ?_)
            clear hK K
            try simp only [puts, gets]
            refine any_two (i := 10) (j := 11) (by kernel_rfl) rfl rfl rfl rfl (fun K hK => ?_) (fun K hK => ?_)
            · have t46 := box_bytes (l := [97, 98]) gB (by decide)
              obtain ⟨kz, hcv⟩ := run_convert_mark wR wd.heap.size _ 2 2 gB
              have kF := freeze_keeps wR ⟨wd.heap.size, kz, none⟩ 1
              replace bD := below_mark bD (g := wd.heap.size) (k := kz) hA
              go_simp
              clear hcv
              obtain ⟨wF, hw⟩ : ∃ x : World, x = wR.freeze ⟨wd.heap.size, kz, none⟩ 1 := ⟨_, rfl⟩
              rw [← hw] at kF bD
              rw [← hw]
              clear hw gB
              replace p44 := p44.keeps kF
              replace t46 := IsRows.keep t46 kF
              clear kF
              refine hK.out _ _ (HS _ bD) (fun hHeld => ?_)
              clear hK K
              try simp only [puts, gets]
              refine any_next (i := 11) (by kernel_rfl) rfl rfl (fun K hK => ?_)
              go_simp
              obtain ⟨wM, hw⟩ : ∃ x : World, x = wF.alloc (.cells (bytesV (zeros 56)).toArray 5) := ⟨_, rfl⟩
              have t47 := zN 56 (by decide) wF
              have bM := below_new wF (.cells (bytesV (zeros 56)).toArray 5)
              rw [← hw] at t47 bM
              rw [← hw]
              clear hw
              replace p44 := IsPages.keep p44 bM
              replace t46 := IsBytes.keep t46 bM
              replace bD := below_trans bD bM
              refine hK.out _ _ (HS _ bD) (fun hHeld => ?_)
              clear hK K
              try simp only [puts, gets]
              refine any_next (i := 12) (by kernel_rfl) rfl rfl (fun K hK => ?_)
              go_simp
              have pL := lit_pages wM [(.slice (some ⟨wd.heap.size, 0, none⟩) 2 2), (.slice (some ⟨wF.heap.size, 0, none⟩) 56 56)] [[97, 98], zeros 56] rfl (by decide) (by
                intro i u l hu hl
                rcases i with _ | _ | i
                · simp at hu hl; subst hu hl; exact t46
                · simp at hu hl; subst hu hl; exact t47
                · simp at hu)
              have bM := below_new wM (.cells #[(.slice (some ⟨wd.heap.size, 0, none⟩) 2 2), (.slice (some ⟨wF.heap.size, 0, none⟩) 56 56)] 26)
              obtain ⟨wL, hw⟩ : ∃ x : World, x = wM.alloc (.cells #[(.slice (some ⟨wd.heap.size, 0, none⟩) 2 2), (.slice (some ⟨wF.heap.size, 0, none⟩) 56 56)] 26) := ⟨_, rfl⟩
              change IsPages (wM.alloc (.cells #[(.slice (some ⟨wd.heap.size, 0, none⟩) 2 2), (.slice (some ⟨wF.heap.size, 0, none⟩) 56 56)] 26)) (.slice (some ⟨wM.heap.size, 0, none⟩) 2 2) _ at pL
              rw [← hw] at pL bM
              rw [← hw]
              clear hw t46 t47
              replace p44 := IsPages.keep p44 bM
              replace bD := below_trans bD bM
              refine hK.out _ _ (HS _ bD) (fun hHeld => ?_)
              clear hK K
              try simp only [puts, gets]
              exact hG _ _ _ _ ⟨_, _, _, _, _, rfl, by kernel_rfl, rfl, p44, pL, bD⟩
            · go_simp
              obtain ⟨wM, hw⟩ : ∃ x : World, x = wR.alloc (.cells (bytesV (zeros 56)).toArray 5) := ⟨_, rfl⟩
              have t47 := zN 56 (by decide) wR
              have bM := below_new wR (.cells (bytesV (zeros 56)).toArray 5)
              rw [← hw] at t47 bM
              rw [← hw]
              clear hw
              replace p44 := IsPages.keep p44 bM
              replace gB := block_keep gB bM
              replace bD := below_trans bD bM
              refine hK.out _ _ (HS _ bD) (fun hHeld => ?_)
              clear hK K
              try simp only [puts, gets]
              refine any_next (i := 10) (by kernel_rfl) rfl rfl (fun K hK => ?_)
              have t46 := box_bytes (l := [97, 98]) gB (by decide)
              obtain ⟨kz, hcv⟩ := run_convert_mark wM wd.heap.size _ 2 2 gB
              have kF := freeze_keeps wM ⟨wd.heap.size, kz, none⟩ 1
              replace bD := below_mark bD (g := wd.heap.size) (k := kz) hA
              go_simp
              clear hcv
              obtain ⟨wF, hw⟩ : ∃ x : World, x = wM.freeze ⟨wd.heap.size, kz, none⟩ 1 := ⟨_, rfl⟩
              rw [← hw] at kF bD
              rw [← hw]
              clear hw gB
              replace p44 := p44.keeps kF
              replace t47 := IsRows.keep t47 kF
              replace t46 := IsRows.keep t46 kF
              clear kF
              refine hK.out _ _ (HS _ bD) (fun hHeld => ?_)
              clear hK K
              try simp only [puts, gets]
              refine any_next (i := 12) (by kernel_rfl) rfl rfl (fun K hK => ?_)
              go_simp
              have pL := lit_pages wF [(.slice (some ⟨wd.heap.size, 0, none⟩) 2 2), (.slice (some ⟨wR.heap.size, 0, none⟩) 56 56)] [[97, 98], zeros 56] rfl (by decide) (by
                intro i u l hu hl
                rcases i with _ | _ | i
                · simp at hu hl; subst hu hl; exact t46
                · simp at hu hl; subst hu hl; exact t47
                · simp at hu)
              have bM := below_new wF (.cells #[(.slice (some ⟨wd.heap.size, 0, none⟩) 2 2), (.slice (some ⟨wR.heap.size, 0, none⟩) 56 56)] 26)
              obtain ⟨wL, hw⟩ : ∃ x : World, x = wF.alloc (.cells #[(.slice (some ⟨wd.heap.size, 0, none⟩) 2 2), (.slice (some ⟨wR.heap.size, 0, none⟩) 56 56)] 26) := ⟨_, rfl⟩
              change IsPages (wF.alloc (.cells #[(.slice (some ⟨wd.heap.size, 0, none⟩) 2 2), (.slice (some ⟨wR.heap.size, 0, none⟩) 56 56)] 26)) (.slice (some ⟨wF.heap.size, 0, none⟩) 2 2) _ at pL
              rw [← hw] at pL bM
              rw [← hw]
              clear hw t46 t47
              replace p44 := IsPages.keep p44 bM
              replace bD := below_trans bD bM
              refine hK.out _ _ (HS _ bD) (fun hHeld => ?_)
              clear hK K
              try simp only [puts, gets]
              exact hG _ _ _ _ ⟨_, _, _, _, _, rfl, by kernel_rfl, rfl, p44, pL, bD⟩
          · have t46 := box_bytes (l := [97, 98]) gB (by decide)
            obtain ⟨kz, hcv⟩ := run_convert_mark wB wd.heap.size _ 2 2 gB
            have kF := freeze_keeps wB ⟨wd.heap.size, kz, none⟩ 1
            replace bD := below_mark bD (g := wd.heap.size) (k := kz) hA
            go_simp
            clear hcv
            obtain ⟨wF, hw⟩ : ∃ x : World, x = wB.freeze ⟨wd.heap.size, kz, none⟩ 1 := ⟨_, rfl⟩
            rw [← hw] at kF bD
            rw [← hw]
            clear hw gB
            replace t46 := IsRows.keep t46 kF
            clear kF
            refine hK.out _ _ (HS _ bD) (fun hHeld => ?_)
            clear hK K
            try simp only [puts, gets]
            refine any_two (i := 8) (j := 11) (by kernel_rfl) rfl rfl rfl rfl (fun K hK => ?_) (fun K hK => ?_)
            · go_simp
              go_at_call 41
              refine records_tu (h2.keep bD) R25 ?_
              intro v44 wR p44 bC
              replace t46 := IsBytes.keep t46 bC
              replace bD := below_trans bD bC
              clear bC
              refine hK.out _ _ (HS _ bD) (fun hHeld => ?_)
              clear hK K
              try simp only [puts, gets]
              refine any_next (i := 11) (by kernel_rfl) rfl rfl (fun K hK => ?_)
              go_simp
              obtain ⟨wM, hw⟩ : ∃ x : World, x = wR.alloc (.cells (bytesV (zeros 56)).toArray 5) := ⟨_, rfl⟩
              have t47 := zN 56 (by decide) wR
              have bM := below_new wR (.cells (bytesV (zeros 56)).toArray 5)
              rw [← hw] at t47 bM
              rw [← hw]
              clear hw
              replace t46 := IsBytes.keep t46 bM
              replace p44 := IsPages.keep p44 bM
              replace bD := below_trans bD bM
              refine hK.out _ _ (HS _ bD) (fun hHeld => ?_)
              clear hK K
              try simp only [puts, gets]
              refine any_next (i := 12) (by kernel_rfl) rfl rfl (fun K hK => ?_)
              go_simp
              have pL := lit_pages wM [(.slice (some ⟨wd.heap.size, 0, none⟩) 2 2), (.slice (some ⟨wR.heap.size, 0, none⟩) 56 56)] [[97, 98], zeros 56] rfl (by decide) (by
                intro i u l hu hl
                rcases i with _ | _ | i
                · simp at hu hl; subst hu hl; exact t46
                · simp at hu hl; subst hu hl; exact t47
                · simp at hu)
              have bM := below_new wM (.cells #[(.slice (some ⟨wd.heap.size, 0, none⟩) 2 2), (.slice (some ⟨wR.heap.size, 0, none⟩) 56 56)] 26)
              obtain ⟨wL, hw⟩ : ∃ x : World, x = wM.alloc (.cells #[(.slice (some ⟨wd.heap.size, 0, none⟩) 2 2), (.slice (some ⟨wR.heap.size, 0, none⟩) 56 56)] 26) := ⟨_, rfl⟩
              change IsPages (wM.alloc (.cells #[(.slice (some ⟨wd.heap.size, 0, none⟩) 2 2), (.slice (some ⟨wR.heap.size, 0, none⟩) 56 56)] 26)) (.slice (some ⟨wM.heap.size, 0, none⟩) 2 2) _ at pL
              rw [← hw] at pL bM
              rw [← hw]
              clear hw t46 t47
              replace p44 := IsPages.keep p44 bM
              replace bD := below_trans bD bM
              refine hK.out _ _ (HS _ bD) (fun hHeld => ?_)
              clear hK K
              try simp only [puts, gets]
              exact hG _ _ _ _ ⟨_, _, _, _, _, rfl, by kernel_rfl, rfl, p44, pL, bD⟩
            · go_simp
              obtain ⟨wM, hw⟩ : ∃ x : World, x = wF.alloc (.cells (bytesV (zeros 56)).toArray 5) := ⟨_, rfl⟩
              have t47 := zN 56 (by decide) wF
              have bM := below_new wF (.cells (bytesV (zeros 56)).toArray 5)
              rw [← hw] at t47 bM
              rw [← hw]
              clear hw
              replace t46 := IsBytes.keep t46 bM
              replace bD := below_trans bD bM
              refine hK.out _ _ (HS _ bD) (fun hHeld => ?_)
              clear hK K
              try simp only [puts, gets]
              refine any_two (i := 8) (j := 12) (by kernel_rfl) rfl rfl rfl rfl (fun K hK => ?_) (fun K hK => ?_)
              · go_simp
                go_at_call 41
                refine records_tu (h2.keep bD) R25 ?_
                intro v44 wR p44 bC
                replace t46 := IsBytes.keep t46 bC
                replace t47 := IsBytes.keep t47 bC
                replace bD := below_trans bD bC
                clear bC
                refine hK.out _ _ (HS _ bD) (fun hHeld => ?_)
                clear hK K
                try simp only [puts, gets]
                refine any_next (i := 12) (by kernel_rfl) rfl rfl (fun K hK => ?_)
                go_simp
                have pL := lit_pages wR [(.slice (some ⟨wd.heap.size, 0, none⟩) 2 2), (.slice (some ⟨wF.heap.size, 0, none⟩) 56 56)] [[97, 98], zeros 56] rfl (by decide) (by
                  intro i u l hu hl
                  rcases i with _ | _ | i
                  · simp at hu hl; subst hu hl; exact t46
                  · simp at hu hl; subst hu hl; exact t47
                  · simp at hu)
                have bM := below_new wR (.cells #[(.slice (some ⟨wd.heap.size, 0, none⟩) 2 2), (.slice (some ⟨wF.heap.size, 0, none⟩) 56 56)] 26)
                obtain ⟨wL, hw⟩ : ∃ x : World, x = wR.alloc (.cells #[(.slice (some ⟨wd.heap.size, 0, none⟩) 2 2), (.slice (some ⟨wF.heap.size, 0, none⟩) 56 56)] 26) := ⟨_, rfl⟩
                change IsPages (wR.alloc (.cells #[(.slice (some ⟨wd.heap.size, 0, none⟩) 2 2), (.slice (some ⟨wF.heap.size, 0, none⟩) 56 56)] 26)) (.slice (some ⟨wR.heap.size, 0, none⟩) 2 2) _ at pL
                rw [← hw] at pL bM
                rw [← hw]
                clear hw t46 t47
                replace p44 := IsPages.keep p44 bM
                replace bD := below_trans bD bM
                refine hK.out _ _ (HS _ bD) (fun hHeld => ?_)
                clear hK K
                try simp only [puts, gets]
                exact hG _ _ _ _ ⟨_, _, _, _, _, rfl, by kernel_rfl, rfl, p44, pL, bD⟩
              · go_simp
                have pL := lit_pages wM [(.slice (some ⟨wd.heap.size, 0, none⟩) 2 2), (.slice (some ⟨wF.heap.size, 0, none⟩) 56 56)] [[97, 98], zeros 56] rfl (by decide) (by
                  intro i u l hu hl
                  rcases i with _ | _ | i
                  · simp at hu hl; subst hu hl; exact t46
                  · simp at hu hl; subst hu hl; exact t47
                  · simp at hu)
                have bM := below_new wM (.cells #[(.slice (some ⟨wd.heap.size, 0, none⟩) 2 2), (.slice (some ⟨wF.heap.size, 0, none⟩) 56 56)] 26)
                obtain ⟨wL, hw⟩ : ∃ x : World, x = wM.alloc (.cells #[(.slice (some ⟨wd.heap.size, 0, none⟩) 2 2), (.slice (some ⟨wF.heap.size, 0, none⟩) 56 56)] 26) := ⟨_, rfl⟩
                change IsPages (wM.alloc (.cells #[(.slice (some ⟨wd.heap.size, 0, none⟩) 2 2), (.slice (some ⟨wF.heap.size, 0, none⟩) 56 56)] 26)) (.slice (some ⟨wM.heap.size, 0, none⟩) 2 2) _ at pL
                rw [← hw] at pL bM
                rw [← hw]
                clear hw t46 t47
                replace bD := below_trans bD bM
                refine hK.out _ _ (HS _ bD) (fun hHeld => ?_)
                clear hK K
                try simp only [puts, gets]
                refine any_next (i := 8) (by kernel_rfl) rfl rfl (fun K hK => ?_)
                go_simp
                go_at_call 41
                refine records_tu (h2.keep bD) R25 ?_
                intro v44 wR p44 bC
                replace pL := IsPages.keep pL bC
                replace bD := below_trans bD bC
                clear bC
                refine hK.out _ _ (HS _ bD) (fun hHeld => ?_)
                clear hK K
                try simp only [puts, gets]
                exact hG _ _ _ _ ⟨_, _, _, _, _, rfl, by kernel_rfl, rfl, p44, pL, bD⟩
          · go_simp
            obtain ⟨wM, hw⟩ : ∃ x : World, x = wB.alloc (.cells (bytesV (zeros 56)).toArray 5) := ⟨_, rfl⟩
            have t47 := zN 56 (by decide) wB
            have bM := below_new wB (.cells (bytesV (zeros 56)).toArray 5)
            rw [← hw] at t47 bM
            rw [← hw]
            clear hw
            replace gB := block_keep gB bM
            replace bD := below_trans bD bM
            refine hK.out _ _ (HS _ bD) (fun hHeld => ?_)
            clear hK K
            try simp only [puts, gets]
            refine any_two (i := 8) (j := 10) (by kernel_rfl) rfl rfl rfl rfl (fun K hK => ?_) (fun K hK => ?_)
            · go_simp
              go_at_call 41
              refine records_tu (h2.keep bD) R25 ?_
              intro v44 wR p44 bC
              replace t47 := IsBytes.keep t47 bC
              replace gB := block_keep gB bC
              replace bD := below_trans bD bC
              clear bC
              refine hK.out _ _ (HS _ bD) (fun hHeld => ?_)
              clear hK K
              try simp only [puts, gets]
              refine any_next (i := 10) (by kernel_rfl) rfl rfl (fun K hK => ?_)
              have t46 := box_bytes (l := [97, 98]) gB (by decide)
              obtain ⟨kz, hcv⟩ := run_convert_mark wR wd.heap.size _ 2 2 gB
              have kF := freeze_keeps wR ⟨wd.heap.size, kz, none⟩ 1
              replace bD := below_mark bD (g := wd.heap.size) (k := kz) hA
              go_simp
              clear hcv
              obtain ⟨wF, hw⟩ : ∃ x : World, x = wR.freeze ⟨wd.heap.size, kz, none⟩ 1 := ⟨_, rfl⟩
              rw [← hw] at kF bD
              rw [← hw]
              clear hw gB
              replace t47 := IsRows.keep t47 kF
              replace p44 := p44.keeps kF
              replace t46 := IsRows.keep t46 kF
              clear kF
              refine hK.out _ _ (HS _ bD) (fun hHeld => ?_)
              clear hK K
              try simp only [puts, gets]
              refine any_next (i := 12) (by kernel_rfl) rfl rfl (fun K hK => ?_)
              go_simp
              have pL := lit_pages wF [(.slice (some ⟨wd.heap.size, 0, none⟩) 2 2), (.slice (some ⟨wB.heap.size, 0, none⟩) 56 56)] [[97, 98], zeros 56] rfl (by decide) (by
                intro i u l hu hl
                rcases i with _ | _ | i
                · simp at hu hl; subst hu hl; exact t46
                · simp at hu hl; subst hu hl; exact t47
                · simp at hu)
              have bM := below_new wF (.cells #[(.slice (some ⟨wd.heap.size, 0, none⟩) 2 2), (.slice (some ⟨wB.heap.size, 0, none⟩) 56 56)] 26)
              obtain ⟨wL, hw⟩ : ∃ x : World, x = wF.alloc (.cells #[(.slice (some ⟨wd.heap.size, 0, none⟩) 2 2), (.slice (some ⟨wB.heap.size, 0, none⟩) 56 56)] 26) := ⟨_, rfl⟩
              change IsPages (wF.alloc (.cells #[(.slice (some ⟨wd.heap.size, 0, none⟩) 2 2), (.slice (some ⟨wB.heap.size, 0, none⟩) 56 56)] 26)) (.slice (some ⟨wF.heap.size, 0, none⟩) 2 2) _ at pL
              rw [← hw] at pL bM
              rw [← hw]
              clear hw t46 t47
              replace p44 := IsPages.keep p44 bM
              replace bD := below_trans bD bM
              refine hK.out _ _ (HS _ bD) (fun hHeld => ?_)
              clear hK K
              try simp only [puts, gets]
              exact hG _ _ _ _ ⟨_, _, _, _, _, rfl, by kernel_rfl, rfl, p44, pL, bD⟩
            · have t46 := box_bytes (l := [97, 98]) gB (by decide)
              obtain ⟨kz, hcv⟩ := run_convert_mark wM wd.heap.size _ 2 2 gB
              have kF := freeze_keeps wM ⟨wd.heap.size, kz, none⟩ 1
              replace bD := below_mark bD (g := wd.heap.size) (k := kz) hA
              go_simp
              clear hcv
              obtain ⟨wF, hw⟩ : ∃ x : World, x = wM.freeze ⟨wd.heap.size, kz, none⟩ 1 := ⟨_, rfl⟩
              rw [← hw] at kF bD
              rw [← hw]
              clear hw gB
              replace t47 := IsRows.keep t47 kF
              replace t46 := IsRows.keep t46 kF
              clear kF
              refine hK.out _ _ (HS _ bD) (fun hHeld => ?_)
              clear hK K
              try simp only [puts, gets]
              refine any_two (i := 8) (j := 12) (by kernel_rfl) rfl rfl rfl rfl (fun K hK => ?_) (fun K hK => ?_)
              · go_simp
                go_at_call 41
                refine records_tu (h2.keep bD) R25 ?_
                intro v44 wR p44 bC
                replace t47 := IsBytes.keep t47 bC
                replace t46 := IsBytes.keep t46 bC
                replace bD := below_trans bD bC
                clear bC
                refine hK.out _ _ (HS _ bD) (fun hHeld => ?_)
                clear hK K
                try simp only [puts, gets]
                refine any_next (i := 12) (by kernel_rfl) rfl rfl (fun K hK => ?_)
                go_simp
                have pL := lit_pages wR [(.slice (some ⟨wd.heap.size, 0, none⟩) 2 2), (.slice (some ⟨wB.heap.size, 0, none⟩) 56 56)] [[97, 98], zeros 56] rfl (by decide) (by
                  intro i u l hu hl
                  rcases i with _ | _ | i
                  · simp at hu hl; subst hu hl; exact t46
                  · simp at hu hl; subst hu hl; exact t47
                  · simp at hu)
                have bM := below_new wR (.cells #[(.slice (some ⟨wd.heap.size, 0, none⟩) 2 2), (.slice (some ⟨wB.heap.size, 0, none⟩) 56 56)] 26)
                obtain ⟨wL, hw⟩ : ∃ x : World, x = wR.alloc (.cells #[(.slice (some ⟨wd.heap.size, 0, none⟩) 2 2), (.slice (some ⟨wB.heap.size, 0, none⟩) 56 56)] 26) := ⟨_, rfl⟩
                change IsPages (wR.alloc (.cells #[(.slice (some ⟨wd.heap.size, 0, none⟩) 2 2), (.slice (some ⟨wB.heap.size, 0, none⟩) 56 56)] 26)) (.slice (some ⟨wR.heap.size, 0, none⟩) 2 2) _ at pL
                rw [← hw] at pL bM
                rw [← hw]
                clear hw t46 t47
                replace p44 := IsPages.keep p44 bM
                replace bD := below_trans bD bM
                refine hK.out _ _ (HS _ bD) (fun hHeld => ?_)
                clear hK K
                try simp only [puts, gets]
                exact hG _ _ _ _ ⟨_, _, _, _, _, rfl, by kernel_rfl, rfl, p44, pL, bD⟩
              · go_simp
                have pL := lit_pages wF [(.slice (some ⟨wd.heap.size, 0, none⟩) 2 2), (.slice (some ⟨wB.heap.size, 0, none⟩) 56 56)] [[97, 98], zeros 56] rfl (by decide) (by
                  intro i u l hu hl
                  rcases i with _ | _ | i
                  · simp at hu hl; subst hu hl; exact t46
                  · simp at hu hl; subst hu hl; exact t47
                  · simp at hu)
                have bM := below_new wF (.cells #[(.slice (some ⟨wd.heap.size, 0, none⟩) 2 2), (.slice (some ⟨wB.heap.size, 0, none⟩) 56 56)] 26)
                obtain ⟨wL, hw⟩ : ∃ x : World, x = wF.alloc (.cells #[(.slice (some ⟨wd.heap.size, 0, none⟩) 2 2), (.slice (some ⟨wB.heap.size, 0, none⟩) 56 56)] 26) := ⟨_, rfl⟩
                change IsPages (wF.alloc (.cells #[(.slice (some ⟨wd.heap.size, 0, none⟩) 2 2), (.slice (some ⟨wB.heap.size, 0, none⟩) 56 56)] 26)) (.slice (some ⟨wF.heap.size, 0, none⟩) 2 2) _ at pL
                rw [← hw] at pL bM
                rw [← hw]
                clear hw t46 t47
                replace bD := below_trans bD bM
                refine hK.out _ _ (HS _ bD) (fun hHeld => ?_)
                clear hK K
                try simp only [puts, gets]
                refine any_next (i := 8) (by kernel_rfl) rfl rfl (fun K hK => ?_)
                go_simp
                go_at_call 41
                refine records_tu (h2.keep bD) R25 ?_
                intro v44 wR p44 bC
                replace pL := IsPages.keep pL bC
                replace bD := below_trans bD bC
                clear bC
                refine hK.out _ _ (HS _ bD) (fun hHeld => ?_)
                clear hK K
                try simp only [puts, gets]
                exact hG _ _ _ _ ⟨_, _, _, _, _, rfl, by kernel_rfl, rfl, p44, pL, bD⟩
        · go_simp
          obtain ⟨wM, hw⟩ : ∃ x : World, x = wd.alloc (.cells (bytesV (zeros 56)).toArray 5) := ⟨_, rfl⟩
          have t47 := zN 56 (by decide) wd
          have bM := below_new wd (.cells (bytesV (zeros 56)).toArray 5)
          rw [← hw] at t47 bM
          rw [← hw]
          clear hw
          replace bD := below_trans bD bM
          refine hK.out _ _ (HS _ bD) (fun hHeld => ?_)
          clear hK K
          try simp only [puts, gets]
          refine any_two (i := 8) (j := 9) (by kernel_rfl) rfl rfl rfl rfl (fun K hK => ?_) (fun K hK => ?_)
          · go_simp
            go_at_call 41
            refine records_tu (h2.keep bD) R25 ?_
            intro v44 wR p44 bC
            replace t47 := IsBytes.keep t47 bC
            replace bD := below_trans bD bC
            clear bC
            refine hK.out _ _ (HS _ bD) (fun hHeld => ?_)
            clear hK K
            try simp only [puts, gets]
            refine any_next (i := 9) (by kernel_rfl) rfl rfl (fun K hK => ?_)
            have hA := bD.size
            go_simp
            have gB : (wR.alloc (.cells #[.int .u8 97, .int .u8 98] 5)).heap[wR.heap.size]? = some (.cells (bytesV [97, 98]).toArray 5) := heap_alloc_new wR _
            have bB := below_new wR (.cells #[.int .u8 97, .int .u8 98] 5)
            obtain ⟨wB, hw⟩ : ∃ x : World, x = wR.alloc (.cells #[.int .u8 97, .int .u8 98] 5) := ⟨_, rfl⟩
            rw [← hw] at gB bB
            rw [← hw]
            clear hw
            replace t47 := IsBytes.keep t47 bB
            replace p44 := IsPages.keep p44 bB
            replace bD := below_trans bD bB
            refine hK.out _ _ (HS _ bD) (fun hHeld => ?_)
            clear hK K
            try simp only [puts, gets]
            refine any_next (i := 10) (by kernel_rfl) rfl rfl (fun K hK => ?_)
            have t46 := box_bytes (l := [97, 98]) gB (by decide)
            obtain ⟨kz, hcv⟩ := run_convert_mark wB wR.heap.size _ 2 2 gB
            have kF := freeze_keeps wB ⟨wR.heap.size, kz, none⟩ 1
            replace bD := below_mark bD (g := wR.heap.size) (k := kz) hA
            go_simp
            clear hcv
            obtain ⟨wF, hw⟩ : ∃ x : World, x = wB.freeze ⟨wR.heap.size, kz, none⟩ 1 := ⟨_, rfl⟩
            rw [← hw] at kF bD
            rw [← hw]
            clear hw gB
            replace t47 := IsRows.keep t47 kF
            replace p44 := p44.keeps kF
            replace t46 := IsRows.keep t46 kF
            clear kF
            refine hK.out _ _ (HS _ bD) (fun hHeld => ?_)
            clear hK K
            try simp only [puts, gets]
            refine any_next (i := 12) (by kernel_rfl) rfl rfl (fun K hK => ?_)
            go_simp
            have pL := lit_pages wF [(.slice (some ⟨wR.heap.size, 0, none⟩) 2 2), (.slice (some ⟨wd.heap.size, 0, none⟩) 56 56)] [[97, 98], zeros 56] rfl (by decide) (by
              intro i u l hu hl
              rcases i with _ | _ | i
              · simp at hu hl; subst hu hl; exact t46
              · simp at hu hl; subst hu hl; exact t47
              · simp at hu)
            have bM := below_new wF (.cells #[(.slice (some ⟨wR.heap.size, 0, none⟩) 2 2), (.slice (some ⟨wd.heap.size, 0, none⟩) 56 56)] 26)
            obtain ⟨wL, hw⟩ : ∃ x : World, x = wF.alloc (.cells #[(.slice (some ⟨wR.heap.size, 0, none⟩) 2 2), (.slice (some ⟨wd.heap.size, 0, none⟩) 56 56)] 26) := ⟨_, rfl⟩
            change IsPages (wF.alloc (.cells #[(.slice (some ⟨wR.heap.size, 0, none⟩) 2 2), (.slice (some ⟨wd.heap.size, 0, none⟩) 56 56)] 26)) (.slice (some ⟨wF.heap.size, 0, none⟩) 2 2) _ at pL
            rw [← hw] at pL bM
            rw [← hw]
            clear hw t46 t47
            replace p44 := IsPages.keep p44 bM
            replace bD := below_trans bD bM
            refine hK.out _ _ (HS _ bD) (fun hHeld => ?_)
            clear hK K
            try simp only [puts, gets]
            exact hG _ _ _ _ ⟨_, _, _, _, _, rfl, by kernel_rfl, rfl, p44, pL, bD⟩
          · have hA := bD.size
            go_simp
            have gB : (wM.alloc (.cells #[.int .u8 97, .int .u8 98] 5)).heap[wM.heap.size]? = some (.cells (bytesV [97, 98]).toArray 5) := heap_alloc_new wM _
            have bB := below_new wM (.cells #[.int .u8 97, .int .u8 98] 5)
            obtain ⟨wB, hw⟩ : ∃ x : World, x = wM.alloc (.cells #[.int .u8 97, .int .u8 98] 5) := ⟨_, rfl⟩
            rw [← hw] at gB bB
            rw [← hw]
            clear hw
            replace t47 := IsBytes.keep t47 bB
            replace bD := below_trans bD bB
            refine hK.out _ _ (HS _ bD) (fun hHeld => ?_)
            clear hK K
            try simp only [puts, gets]
            refine any_two (i := 8) (j := 10) (by kernel_rfl) rfl rfl rfl rfl (fun K hK => ?_) (fun K hK => ?_)
            · go_simp
              go_at_call 41
              refine records_tu (h2.keep bD) R25 ?_
              intro v44 wR p44 bC
              replace t47 := IsBytes.keep t47 bC
              replace gB := block_keep gB bC
              replace bD := below_trans bD bC
              clear bC
              refine hK.out _ _ (HS _ bD) (fun hHeld => ?_)
              clear hK K
              try simp only [puts, gets]
              refine any_next (i := 10) (by kernel_rfl) rfl rfl (fun K hK => ?_)
              have t46 := box_bytes (l := [97, 98]) gB (by decide)
              obtain ⟨kz, hcv⟩ := run_convert_mark wR wM.heap.size _ 2 2 gB
              have kF := freeze_keeps wR ⟨wM.heap.size, kz, none⟩ 1
              replace bD := below_mark bD (g := wM.heap.size) (k := kz) hA
              go_simp
              clear hcv
              obtain ⟨wF, hw⟩ : ∃ x : World, x = wR.freeze ⟨wM.heap.size, kz, none⟩ 1 := ⟨_, rfl⟩
              rw [← hw] at kF bD
              rw [← hw]
              clear hw gB
              replace t47 := IsRows.keep t47 kF
              replace p44 := p44.keeps kF
              replace t46 := IsRows.keep t46 kF
              clear kF
              refine hK.out _ _ (HS _ bD) (fun hHeld => ?_)
              clear hK K
              try simp only [puts, gets]
              refine any_next (i := 12) (by kernel_rfl) rfl rfl (fun K hK => ?_)
              go_simp
              have pL := lit_pages wF [(.slice (some ⟨wM.heap.size, 0, none⟩) 2 2), (.slice (some ⟨wd.heap.size, 0, none⟩) 56 56)] [[97, 98], zeros 56] rfl (by decide) (by
                intro i u l hu hl
                rcases i with _ | _ | i
                · simp at hu hl; subst hu hl; exact t46
                · simp at hu hl; subst hu hl; exact t47
                · simp at hu)
              have bM := below_new wF (.cells #[(.slice (some ⟨wM.heap.size, 0, none⟩) 2 2), (.slice (some ⟨wd.heap.size, 0, none⟩) 56 56)] 26)
              obtain ⟨wL, hw⟩ : ∃ x : World, x = wF.alloc (.cells #[(.slice (some ⟨wM.heap.size, 0, none⟩) 2 2), (.slice (some ⟨wd.heap.size, 0, none⟩) 56 56)] 26) := ⟨_, rfl⟩
              change IsPages (wF.alloc (.cells #[(.slice (some ⟨wM.heap.size, 0, none⟩) 2 2), (.slice (some ⟨wd.heap.size, 0, none⟩) 56 56)] 26)) (.slice (some ⟨wF.heap.size, 0, none⟩) 2 2) _ at pL
              rw [← hw] at pL bM
              rw [← hw]
              clear hw t46 t47
              replace p44 := IsPages.keep p44 bM
              replace bD := below_trans bD bM
              refine hK.out _ _ (HS _ bD) (fun hHeld => ?_)
              clear hK K
              try simp only [puts, gets]
              exact hG _ _ _ _ ⟨_, _, _, _, _, rfl, by kernel_rfl, rfl, p44, pL, bD⟩
            · have t46 := box_bytes (l := [97, 98]) gB (by decide)
              obtain ⟨kz, hcv⟩ := run_convert_mark wB wM.heap.size _ 2 2 gB
              have kF := freeze_keeps wB ⟨wM.heap.size, kz, none⟩ 1
              replace bD := below_mark bD (g := wM.heap.size) (k := kz) hA
              go_simp
              clear hcv
              obtain ⟨wF, hw⟩ : ∃ x : World, x = wB.freeze ⟨wM.heap.size, kz, none⟩ 1 := ⟨_, rfl⟩
              rw [← hw] at kF bD
              rw [← hw]
              clear hw gB
              replace t47 := IsRows.keep t47 kF
              replace t46 := IsRows.keep t46 kF
              clear kF
              refine hK.out _ _ (HS _ bD) (fun hHeld => ?_)
              clear hK K
              try simp only [puts, gets]
              refine any_two (i := 8) (j := 12) (by kernel_rfl) rfl rfl rfl rfl (fun K hK => ?_) (fun K hK => ?_)
              · go_simp
                go_at_call 41
                refine records_tu (h2.keep bD) R25 ?_
                intro v44 wR p44 bC
                replace t47 := IsBytes.keep t47 bC
                replace t46 := IsBytes.keep t46 bC
                replace bD := below_trans bD bC
                clear bC
                refine hK.out _ _ (HS _ bD) (fun hHeld => ?_)
                clear hK K
                try simp only [puts, gets]
                refine any_next (i := 12) (by kernel_rfl) rfl rfl (fun K hK => ?_)
                go_simp
                have pL := lit_pages wR [(.slice (some ⟨wM.heap.size, 0, none⟩) 2 2), (.slice (some ⟨wd.heap.size, 0, none⟩) 56 56)] [[97, 98], zeros 56] rfl (by decide) (by
                  intro i u l hu hl
                  rcases i with _ | _ | i
                  · simp at hu hl; subst hu hl; exact t46
                  · simp at hu hl; subst hu hl; exact t47
                  · simp at hu)
                have bM := below_new wR (.cells #[(.slice (some ⟨wM.heap.size, 0, none⟩) 2 2), (.slice (some ⟨wd.heap.size, 0, none⟩) 56 56)] 26)
                obtain ⟨wL, hw⟩ : ∃ x : World, x = wR.alloc (.cells #[(.slice (some ⟨wM.heap.size, 0, none⟩) 2 2), (.slice (some ⟨wd.heap.size, 0, none⟩) 56 56)] 26) := ⟨_, rfl⟩
                change IsPages (wR.alloc (.cells #[(.slice (some ⟨wM.heap.size, 0, none⟩) 2 2), (.slice (some ⟨wd.heap.size, 0, none⟩) 56 56)] 26)) (.slice (some ⟨wR.heap.size, 0, none⟩) 2 2) _ at pL
                rw [← hw] at pL bM
                rw [← hw]
                clear hw t46 t47
                replace p44 := IsPages.keep p44 bM
                replace bD := below_trans bD bM
                refine hK.out _ _ (HS _ bD) (fun hHeld => ?_)
                clear hK K
                try simp only [puts, gets]
                exact hG _ _ _ _ ⟨_, _, _, _, _, rfl, by kernel_rfl, rfl, p44, pL, bD⟩
              · go_simp
                have pL := lit_pages wF [(.slice (some ⟨wM.heap.size, 0, none⟩) 2 2), (.slice (some ⟨wd.heap.size, 0, none⟩) 56 56)] [[97, 98], zeros 56] rfl (by decide) (by
                  intro i u l hu hl
                  rcases i with _ | _ | i
                  · simp at hu hl; subst hu hl; exact t46
                  · simp at hu hl; subst hu hl; exact t47
                  · simp at hu)
                have bM := below_new wF (.cells #[(.slice (some ⟨wM.heap.size, 0, none⟩) 2 2), (.slice (some ⟨wd.heap.size, 0, none⟩) 56 56)] 26)
                obtain ⟨wL, hw⟩ : ∃ x : World, x = wF.alloc (.cells #[(.slice (some ⟨wM.heap.size, 0, none⟩) 2 2), (.slice (some ⟨wd.heap.size, 0, none⟩) 56 56)] 26) := ⟨_, rfl⟩
                change IsPages (wF.alloc (.cells #[(.slice (some ⟨wM.heap.size, 0, none⟩) 2 2), (.slice (some ⟨wd.heap.size, 0, none⟩) 56 56)] 26)) (.slice (some ⟨wF.heap.size, 0, none⟩) 2 2) _ at pL
                rw [← hw] at pL bM
                rw [← hw]
                clear hw t46 t47
                replace bD := below_trans bD bM
                refine hK.out _ _ (HS _ bD) (fun hHeld => ?_)
                clear hK K
                try simp only [puts, gets]
                refine any_next (i := 8) (by kernel_rfl) rfl rfl (fun K hK => ?_)
                go_simp
                go_at_call 41
                refine records_tu (h2.keep bD) R25 ?_
                intro v44 wR p44 bC
                replace pL := IsPages.keep pL bC
                replace bD := below_trans bD bC
                clear bC
                refine hK.out _ _ (HS _ bD) (fun hHeld => ?_)
                clear hK K
                try simp only [puts, gets]
                exact hG _ _ _ _ ⟨_, _, _, _, _, rfl, by kernel_rfl, rfl, p44, pL, bD⟩
      rintro f d a wG ⟨v44, v45, v46, v47, v48, rfl, rfl, rfl, p44, pL, bD⟩
      as_aux_lemma =>
      have hHeld := HS _ bD
      refine any_next (i := 13) (by kernel_rfl) rfl rfl (fun K hK => ?_)
      go_simp
      go_at_call 45
      refine rsame_ts p44 pL (Lib.hid rfl) ?_
      intro wS bC
      replace bD := below_trans bD bC
      clear p44 pL
      refine hK.out _ _ (HS _ bD) (fun hHeld => ?_)
      clear hK K
      try dsimp only
      refine any_take (by kernel_rfl) (i := 14) (oi := _) (v := ?_) rfl rfl (by kernel_rfl) (by kernel_rfl) (by kernel_rfl) (fun _ _ _ h => h) (Or.inl ⟨by rfl, ?_⟩) hHeld ?_
      rotate_left
      · intro w' hSw; try dsimp only at hSw
        go_simp
        try with_reducible rfl
      try simp only [puts, gets]
      refine any_take (by kernel_rfl) (i := 15) (oi := _) (v := ?_) rfl rfl (by kernel_rfl) (by kernel_rfl) (by kernel_rfl) (fun _ _ _ h => h) (Or.inl ⟨by rfl, ?_⟩) hHeld ?_
      rotate_left
      · intro w' hSw; try dsimp only at hSw
        go_simp
        try with_reducible rfl
      try simp only [puts, gets]
      refine any_take (by kernel_rfl) (i := 16) (oi := _) (v := ?_) rfl rfl (by kernel_rfl) (by kernel_rfl) (by kernel_rfl) (fun _ _ _ h => h) (Or.inl ⟨by rfl, ?_⟩) hHeld ?_
      rotate_left
      · intro w' hSw; try dsimp only at hSw
        go_simp
        try with_reducible rfl
      try simp only [puts, gets]
      refine any_next (i := 17) (by kernel_rfl) rfl rfl (fun K hK => ?_)
      go_simp
      go_at_call 42
      refine end_ts (h2.keep bD) E25 ?_
      intro w20 bC
      replace bD := below_trans bD bC
      refine hK.out _ _ (HS _ bD) (fun hHeld => ?_)
      clear hK K
      try simp only [puts, gets]
      refine any_take (by kernel_rfl) (i := 18) (oi := _) (v := ?_) rfl rfl (by kernel_rfl) (by kernel_rfl) (by kernel_rfl) (fun _ _ _ h => h) (Or.inl ⟨by rfl, ?_⟩) hHeld ?_
      rotate_left
      · intro w' hSw; try dsimp only at hSw
        go_simp
        try with_reducible rfl
      try simp only [puts, gets]
      refine any_take (by kernel_rfl) (i := 19) (oi := _) (v := ?_) rfl rfl (by kernel_rfl) (by kernel_rfl) (by kernel_rfl) (fun _ _ _ h => h) (Or.inl ⟨by rfl, ?_⟩) hHeld ?_
      rotate_left
      · intro w' hSw; try dsimp only at hSw
        go_simp
        try with_reducible rfl
      try simp only [puts, gets]
      refine any_take (by kernel_rfl) (i := 20) (oi := _) (v := ?_) rfl rfl (by kernel_rfl) (by kernel_rfl) (by kernel_rfl) (fun _ _ _ h => h) (Or.inl ⟨by rfl, ?_⟩) hHeld ?_
      rotate_left
      · intro w' hSw; try dsimp only at hSw
        go_simp
        try with_reducible rfl
      try simp only [puts, gets]
      refine any_take (by kernel_rfl) (i := 21) (oi := _) (v := ?_) rfl rfl (by kernel_rfl) (by kernel_rfl) (by kernel_rfl) (fun _ _ _ h => h) (Or.inl ⟨by rfl, ?_⟩) hHeld ?_
      rotate_left
      · intro w' hSw; try dsimp only at hSw
        go_simp
        try with_reducible rfl
      try simp only [puts, gets]
      refine any_next (i := 22) (by kernel_rfl) rfl rfl (fun K hK => ?_)
      go_simp
      go_at_call 41
      refine records_t0 (h2.keep bD) R24 ?_
      intro a21 c21 w21 bC
      replace bD := below_trans bD bC
      clear bC
      refine hK.out _ _ (HS _ bD) (fun hHeld => ?_)
      clear hK K
      try simp only [puts, gets]
      refine any_take (by kernel_rfl) (i := 23) (oi := _) (v := ?_) rfl rfl (by kernel_rfl) (by kernel_rfl) (by kernel_rfl) (fun _ _ _ h => h) (Or.inl ⟨by rfl, ?_⟩) hHeld ?_
      rotate_left
      · intro w' hSw; try dsimp only at hSw
        go_simp
        try with_reducible rfl
      try simp only [puts, gets]
      refine any_take (by kernel_rfl) (i := 24) (oi := _) (v := ?_) rfl rfl (by kernel_rfl) (by kernel_rfl) (by kernel_rfl) (fun _ _ _ h => h) (Or.inl ⟨by rfl, ?_⟩) hHeld ?_
      rotate_left
      · intro w' hSw; try dsimp only at hSw
        go_simp
        try with_reducible rfl
      try simp only [puts, gets]
      refine any_take (by kernel_rfl) (i := 25) (oi := _) (v := ?_) rfl rfl (by kernel_rfl) (by kernel_rfl) (by kernel_rfl) (fun _ _ _ h => h) (Or.inl ⟨by rfl, ?_⟩) hHeld ?_
      rotate_left
      · intro w' hSw; try dsimp only at hSw
        go_simp
        try with_reducible rfl
      try simp only [puts, gets]
      refine any_take (by kernel_rfl) (i := 26) (oi := _) (v := ?_) rfl rfl (by kernel_rfl) (by kernel_rfl) (by kernel_rfl) (fun _ _ _ h => h) (Or.inl ⟨by rfl, ?_⟩) hHeld ?_
      rotate_left
      · intro w' hSw; try dsimp only at hSw
        go_simp
        try with_reducible rfl
      try simp only [puts, gets]
      refine any_take (by kernel_rfl) (i := 27) (oi := _) (v := ?_) rfl rfl (by kernel_rfl) (by kernel_rfl) (by kernel_rfl) (fun _ _ _ h => h) (Or.inl ⟨by rfl, ?_⟩) hHeld ?_
      rotate_left
      · intro w' hSw; try dsimp only at hSw
        go_simp
        try with_reducible rfl
      try simp only [puts, gets]
      refine any_next (i := 28) (by kernel_rfl) rfl rfl (fun K hK => ?_)
      go_simp
      go_at_call 42
      refine end_ts (h2.keep bD) E24 ?_
      intro w22 bC
      replace bD := below_trans bD bC
      refine hK.out _ _ (HS _ bD) (fun hHeld => ?_)
      clear hK K
      try simp only [puts, gets]
      refine any_take (by kernel_rfl) (i := 29) (oi := _) (v := ?_) rfl rfl (by kernel_rfl) (by kernel_rfl) (by kernel_rfl) (fun _ _ _ h => h) (Or.inl ⟨by rfl, ?_⟩) hHeld ?_
      rotate_left
      · intro w' hSw; try dsimp only at hSw
        go_simp
        try with_reducible rfl
      try simp only [puts, gets]
      refine any_take (by kernel_rfl) (i := 30) (oi := _) (v := ?_) rfl rfl (by kernel_rfl) (by kernel_rfl) (by kernel_rfl) (fun _ _ _ h => h) (Or.inl ⟨by rfl, ?_⟩) hHeld ?_
      rotate_left
      · intro w' hSw; try dsimp only at hSw
        go_simp
        try with_reducible rfl
      try simp only [puts, gets]
      refine any_take (by kernel_rfl) (i := 31) (oi := _) (v := ?_) rfl rfl (by kernel_rfl) (by kernel_rfl) (by kernel_rfl) (fun _ _ _ h => h) (Or.inl ⟨by rfl, ?_⟩) hHeld ?_
      rotate_left
      · intro w' hSw; try dsimp only at hSw
        go_simp
        try with_reducible rfl
      try simp only [puts, gets]
      refine any_take (by kernel_rfl) (i := 32) (oi := _) (v := ?_) rfl rfl (by kernel_rfl) (by kernel_rfl) (by kernel_rfl) (fun _ _ _ h => h) (Or.inl ⟨by rfl, ?_⟩) hHeld ?_
      rotate_left
      · intro w' hSw; try dsimp only at hSw
        go_simp
        try with_reducible rfl
      try simp only [puts, gets]
      refine any_take (by kernel_rfl) (i := 33) (oi := _) (v := ?_) rfl rfl (by kernel_rfl) (by kernel_rfl) (by kernel_rfl) (fun _ _ _ h => h) (Or.inl ⟨by rfl, ?_⟩) hHeld ?_
      rotate_left
      · intro w' hSw; try dsimp only at hSw
        go_simp
        try with_reducible rfl
      try simp only [puts, gets]
      refine any_take (by kernel_rfl) (i := 34) (oi := _) (v := ?_) rfl rfl (by kernel_rfl) (by kernel_rfl) (by kernel_rfl) (fun _ _ _ h => h) (Or.inl ⟨by rfl, ?_⟩) hHeld ?_
      rotate_left
      · intro w' hSw; try dsimp only at hSw
        go_simp
        try with_reducible rfl
      try simp only [puts, gets]
      refine any_take (by kernel_rfl) (i := 35) (oi := _) (v := ?_) rfl rfl (by kernel_rfl) (by kernel_rfl) (by kernel_rfl) (fun _ _ _ h => h) (Or.inl ⟨by rfl, ?_⟩) hHeld ?_
      rotate_left
      · intro w' hSw; try dsimp only at hSw
        go_simp
        try with_reducible rfl
      try simp only [puts, gets]
      refine any_take (by kernel_rfl) (i := 36) (oi := _) (v := ?_) rfl rfl (by kernel_rfl) (by kernel_rfl) (by kernel_rfl) (fun _ _ _ h => h) (Or.inl ⟨by rfl, ?_⟩) hHeld ?_
      rotate_left
      · intro w' hSw; try dsimp only at hSw
        go_simp
        try with_reducible rfl
      try simp only [puts, gets]
      refine any_take (by kernel_rfl) (i := 37) (oi := _) (v := ?_) rfl rfl (by kernel_rfl) (by kernel_rfl) (by kernel_rfl) (fun _ _ _ h => h) (Or.inl ⟨by rfl, ?_⟩) hHeld ?_
      rotate_left
      · intro w' hSw; try dsimp only at hSw
        go_simp
        try with_reducible rfl
      try simp only [puts, gets]
      refine any_take (by kernel_rfl) (i := 38) (oi := _) (v := ?_) rfl rfl (by kernel_rfl) (by kernel_rfl) (by kernel_rfl) (fun _ _ _ h => h) (Or.inl ⟨by rfl, ?_⟩) hHeld ?_
      rotate_left
      · intro w' hSw; try dsimp only at hSw
        go_simp
        try with_reducible rfl
      try simp only [puts, gets]
      refine any_take (by kernel_rfl) (i := 39) (oi := _) (v := ?_) rfl rfl (by kernel_rfl) (by kernel_rfl) (by kernel_rfl) (fun _ _ _ h => h) (Or.inl ⟨by rfl, ?_⟩) hHeld ?_
      rotate_left
      · intro w' hSw; try dsimp only at hSw
        go_simp
        try with_reducible rfl
      try simp only [puts, gets]
      refine any_take (by kernel_rfl) (i := 40) (oi := _) (v := ?_) rfl rfl (by kernel_rfl) (by kernel_rfl) (by kernel_rfl) (fun _ _ _ h => h) (Or.inl ⟨by rfl, ?_⟩) hHeld ?_
      rotate_left
      · intro w' hSw; try dsimp only at hSw
        go_simp
        try with_reducible rfl
      try simp only [puts, gets]
      refine any_next (i := 41) (by kernel_rfl) rfl rfl (fun K hK => ?_)
      go_simp
      go_at_call 42
      refine end_ts (h2.keep bD) E2m ?_
      intro w23 bC
      replace bD := below_trans bD bC
      refine hK.out _ _ (HS _ bD) (fun hHeld => ?_)
      clear hK K
      try simp only [puts, gets]
      refine any_take (by kernel_rfl) (i := 42) (oi := _) (v := ?_) rfl rfl (by kernel_rfl) (by kernel_rfl) (by kernel_rfl) (fun _ _ _ h => h) (Or.inl ⟨by rfl, ?_⟩) hHeld ?_
      rotate_left
      · intro w' hSw; try dsimp only at hSw
        go_simp
        try with_reducible rfl
      try simp only [puts, gets]
      refine any_take (by kernel_rfl) (i := 43) (oi := _) (v := ?_) rfl rfl (by kernel_rfl) (by kernel_rfl) (by kernel_rfl) (fun _ _ _ h => h) (Or.inl ⟨by rfl, ?_⟩) hHeld ?_
      rotate_left
      · intro w' hSw; try dsimp only at hSw
        go_simp
        try with_reducible rfl
      try simp only [puts, gets]
      refine any_take (by kernel_rfl) (i := 44) (oi := _) (v := ?_) rfl rfl (by kernel_rfl) (by kernel_rfl) (by kernel_rfl) (fun _ _ _ h => h) (Or.inl ⟨by rfl, ?_⟩) hHeld ?_
      rotate_left
      · intro w' hSw; try dsimp only at hSw
        go_simp
        try with_reducible rfl
      try simp only [puts, gets]
      refine any_take (by kernel_rfl) (i := 45) (oi := _) (v := ?_) rfl rfl (by kernel_rfl) (by kernel_rfl) (by kernel_rfl) (fun _ _ _ h => h) (Or.inl ⟨by rfl, ?_⟩) hHeld ?_
      rotate_left
      · intro w' hSw; try dsimp only at hSw
        go_simp
        try with_reducible rfl
      try simp only [puts, gets]
      refine any_next (i := 46) (by kernel_rfl) rfl rfl (fun K hK => ?_)
      go_simp
      go_at_call 41
      refine records_t0 (h10.keep bD) Re5 ?_
      intro a24 c24 w24 bC
      replace bD := below_trans bD bC
      clear bC
      refine hK.out _ _ (HS _ bD) (fun hHeld => ?_)
      clear hK K
      try simp only [puts, gets]
      refine any_take (by kernel_rfl) (i := 47) (oi := _) (v := ?_) rfl rfl (by kernel_rfl) (by kernel_rfl) (by kernel_rfl) (fun _ _ _ h => h) (Or.inl ⟨by rfl, ?_⟩) hHeld ?_
      rotate_left
      · intro w' hSw; try dsimp only at hSw
        go_simp
        try with_reducible rfl
      try simp only [puts, gets]
      refine any_take (by kernel_rfl) (i := 48) (oi := _) (v := ?_) rfl rfl (by kernel_rfl) (by kernel_rfl) (by kernel_rfl) (fun _ _ _ h => h) (Or.inl ⟨by rfl, ?_⟩) hHeld ?_
      rotate_left
      · intro w' hSw; try dsimp only at hSw
        go_simp
        try with_reducible rfl
      try simp only [puts, gets]
      refine any_take (by kernel_rfl) (i := 49) (oi := _) (v := ?_) rfl rfl (by kernel_rfl) (by kernel_rfl) (by kernel_rfl) (fun _ _ _ h => h) (Or.inl ⟨by rfl, ?_⟩) hHeld ?_
      rotate_left
      · intro w' hSw; try dsimp only at hSw
        go_simp
        try with_reducible rfl
      try simp only [puts, gets]
      refine any_take (by kernel_rfl) (i := 50) (oi := _) (v := ?_) rfl rfl (by kernel_rfl) (by kernel_rfl) (by kernel_rfl) (fun _ _ _ h => h) (Or.inl ⟨by rfl, ?_⟩) hHeld ?_
      rotate_left
      · intro w' hSw; try dsimp only at hSw
        go_simp
        try with_reducible rfl
      try simp only [puts, gets]
      refine any_next (i := 51) (by kernel_rfl) rfl rfl (fun K hK => ?_)
      go_simp
      go_at_call 46
      refine sum_ts (IsBytes.nil _) S0' ?_
      refine hK.out _ _ (HS _ bD) (fun hHeld => ?_)
      clear hK K
      try simp only [puts, gets]
      refine any_take (by kernel_rfl) (i := 52) (oi := _) (v := ?_) rfl rfl (by kernel_rfl) (by kernel_rfl) (by kernel_rfl) (fun _ _ _ h => h) (Or.inl ⟨by rfl, ?_⟩) hHeld ?_
      rotate_left
      · intro w' hSw; try dsimp only at hSw
        go_simp
        try with_reducible rfl
      try simp only [puts, gets]
      refine any_take (by kernel_rfl) (i := 53) (oi := _) (v := ?_) rfl rfl (by kernel_rfl) (by kernel_rfl) (by kernel_rfl) (fun _ _ _ h => h) (Or.inl ⟨by rfl, ?_⟩) hHeld ?_
      rotate_left
      · intro w' hSw; try dsimp only at hSw
        go_simp
        try with_reducible rfl
      try simp only [puts, gets]
      refine any_take (by kernel_rfl) (i := 54) (oi := _) (v := ?_) rfl rfl (by kernel_rfl) (by kernel_rfl) (by kernel_rfl) (fun _ _ _ h => h) (Or.inl ⟨by rfl, ?_⟩) hHeld ?_
      rotate_left
      · intro w' hSw; try dsimp only at hSw
        go_simp
        try with_reducible rfl
      try simp only [puts, gets]
      refine any_next (i := 55) (by kernel_rfl) rfl rfl (fun K hK => ?_)
      have hA := bD.size
      go_simp
      have gB : (w24.alloc (.cells #[.int .u8 97] 5)).heap[w24.heap.size]? = some (.cells (bytesV [97]).toArray 5) := heap_alloc_new w24 _
      have bB := below_new w24 (.cells #[.int .u8 97] 5)
      obtain ⟨wB1, hw⟩ : ∃ x : World, x = w24.alloc (.cells #[.int .u8 97] 5) := ⟨_, rfl⟩
      rw [← hw] at gB bB
      rw [← hw]
      clear hw
      replace bD := below_trans bD bB
      refine hK.out _ _ (HS _ bD) (fun hHeld => ?_)
      clear hK K
      try simp only [puts, gets]
      refine any_next (i := 56) (by kernel_rfl) rfl rfl (fun K hK => ?_)
      have t92 := box_bytes (l := [97]) gB (by decide)
      obtain ⟨kz, hcv⟩ := run_convert_mark wB1 w24.heap.size _ 1 1 gB
      have kF := freeze_keeps wB1 ⟨w24.heap.size, kz, none⟩ 1
      replace bD := below_mark bD (g := w24.heap.size) (k := kz) hA
      go_simp
      clear hcv
      obtain ⟨wF1, hw⟩ : ∃ x : World, x = wB1.freeze ⟨w24.heap.size, kz, none⟩ 1 := ⟨_, rfl⟩
      rw [← hw] at kF bD
      rw [← hw]
      clear hw gB
      replace t92 := IsRows.keep t92 kF
      clear kF
      refine hK.out _ _ (HS _ bD) (fun hHeld => ?_)
      clear hK K
      try simp only [puts, gets]
      refine any_next (i := 57) (by kernel_rfl) rfl rfl (fun K hK => ?_)
      go_simp
      go_at_call 46
      refine sum_ts t92 S1' ?_
      refine hK.out _ _ (HS _ bD) (fun hHeld => ?_)
      clear hK K
      try simp only [puts, gets]
      refine any_take (by kernel_rfl) (i := 58) (oi := _) (v := ?_) rfl rfl (by kernel_rfl) (by kernel_rfl) (by kernel_rfl) (fun _ _ _ h => h) (Or.inl ⟨by rfl, ?_⟩) hHeld ?_
      rotate_left
      · intro w' hSw; try dsimp only at hSw
        go_simp
        try with_reducible rfl
      try simp only [puts, gets]
      refine any_take (by kernel_rfl) (i := 59) (oi := _) (v := ?_) rfl rfl (by kernel_rfl) (by kernel_rfl) (by kernel_rfl) (fun _ _ _ h => h) (Or.inl ⟨by rfl, ?_⟩) hHeld ?_
      rotate_left
      · intro w' hSw; try dsimp only at hSw
        go_simp
        try with_reducible rfl
      try simp only [puts, gets]
      refine any_take (by kernel_rfl) (i := 60) (oi := _) (v := ?_) rfl rfl (by kernel_rfl) (by kernel_rfl) (by kernel_rfl) (fun _ _ _ h => h) (Or.inl ⟨by rfl, ?_⟩) hHeld ?_
      rotate_left
      · intro w' hSw; try dsimp only at hSw
        go_simp
        try with_reducible rfl
      try simp only [puts, gets]
      refine any_next (i := 61) (by kernel_rfl) rfl rfl (fun K hK => ?_)
      go_simp
      obtain ⟨wM1, hw⟩ : ∃ x : World, x = wF1.alloc (.cells (bytesV (zeros 55)).toArray 5) := ⟨_, rfl⟩
      have t97 := zN 55 (by decide) wF1
      have bM := below_new wF1 (.cells (bytesV (zeros 55)).toArray 5)
      rw [← hw] at t97 bM
      rw [← hw]
      clear hw
      replace bD := below_trans bD bM
      refine hK.out _ _ (HS _ bD) (fun hHeld => ?_)
      clear hK K
      try simp only [puts, gets]
      refine any_next (i := 62) (by kernel_rfl) rfl rfl (fun K hK => ?_)
      go_simp
      go_at_call 44
      refine pagesI_ts t97 (by decide) HP55 ?_
      clear t97
      refine hK.out _ _ (HS _ bD) (fun hHeld => ?_)
      clear hK K
      try simp only [puts, gets]
      refine any_take (by kernel_rfl) (i := 63) (oi := _) (v := ?_) rfl rfl (by kernel_rfl) (by kernel_rfl) (by kernel_rfl) (fun _ _ _ h => h) (Or.inl ⟨by rfl, ?_⟩) hHeld ?_
      rotate_left
      · intro w' hSw; try dsimp only at hSw
        go_simp
        try with_reducible rfl
      try simp only [puts, gets]
      refine any_take (by kernel_rfl) (i := 64) (oi := _) (v := ?_) rfl rfl (by kernel_rfl) (by kernel_rfl) (by kernel_rfl) (fun _ _ _ h => h) (Or.inl ⟨by rfl, ?_⟩) hHeld ?_
      rotate_left
      · intro w' hSw; try dsimp only at hSw
        go_simp
        try with_reducible rfl
      try simp only [puts, gets]
      refine any_take (by kernel_rfl) (i := 65) (oi := _) (v := ?_) rfl rfl (by kernel_rfl) (by kernel_rfl) (by kernel_rfl) (fun _ _ _ h => h) (Or.inl ⟨by rfl, ?_⟩) hHeld ?_
      rotate_left
      · intro w' hSw; try dsimp only at hSw
        go_simp
        try with_reducible rfl
      try simp only [puts, gets]
      refine any_next (i := 66) (by kernel_rfl) rfl rfl (fun K hK => ?_)
      go_simp
      obtain ⟨wM2, hw⟩ : ∃ x : World, x = wM1.alloc (.cells (bytesV (zeros 56)).toArray 5) := ⟨_, rfl⟩
      have t98 := zN 56 (by decide) wM1
      have bM := below_new wM1 (.cells (bytesV (zeros 56)).toArray 5)
      rw [← hw] at t98 bM
      rw [← hw]
      clear hw
      replace bD := below_trans bD bM
      refine hK.out _ _ (HS _ bD) (fun hHeld => ?_)
      clear hK K
      try simp only [puts, gets]
      refine any_next (i := 67) (by kernel_rfl) rfl rfl (fun K hK => ?_)
      go_simp
      go_at_call 44
      refine pagesI_ts t98 (by decide) HP56 ?_
      clear t98
      refine hK.out _ _ (HS _ bD) (fun hHeld => ?_)
      clear hK K
      try simp only [puts, gets]
      refine any_take (by kernel_rfl) (i := 68) (oi := _) (v := ?_) rfl rfl (by kernel_rfl) (by kernel_rfl) (by kernel_rfl) (fun _ _ _ h => h) (Or.inl ⟨by rfl, ?_⟩) hHeld ?_
      rotate_left
      · intro w' hSw; try dsimp only at hSw
        go_simp
        try with_reducible rfl
      try simp only [puts, gets]
      refine any_take (by kernel_rfl) (i := 69) (oi := _) (v := ?_) rfl rfl (by kernel_rfl) (by kernel_rfl) (by kernel_rfl) (fun _ _ _ h => h) (Or.inl ⟨by rfl, ?_⟩) hHeld ?_
      rotate_left
      · intro w' hSw; try dsimp only at hSw
        go_simp
        try with_reducible rfl
      try simp only [puts, gets]
      refine any_take (by kernel_rfl) (i := 70) (oi := _) (v := ?_) rfl rfl (by kernel_rfl) (by kernel_rfl) (by kernel_rfl) (fun _ _ _ h => h) (Or.inl ⟨by rfl, ?_⟩) hHeld ?_
      rotate_left
      · intro w' hSw; try dsimp only at hSw
        go_simp
        try with_reducible rfl
      try simp only [puts, gets]
      refine any_next (i := 71) (by kernel_rfl) rfl rfl (fun K hK => ?_)
      go_simp
      obtain ⟨wM3, hw⟩ : ∃ x : World, x = wM2.alloc (.cells (bytesV (zeros 120)).toArray 5) := ⟨_, rfl⟩
      have t99 := zN 120 (by decide) wM2
      have bM := below_new wM2 (.cells (bytesV (zeros 120)).toArray 5)
      rw [← hw] at t99 bM
      rw [← hw]
      clear hw
      replace bD := below_trans bD bM
      refine hK.out _ _ (HS _ bD) (fun hHeld => ?_)
      clear hK K
      try simp only [puts, gets]
      refine any_next (i := 72) (by kernel_rfl) rfl rfl (fun K hK => ?_)
      go_simp
      go_at_call 44
      refine pagesI_ts t99 (by decide) HP120 ?_
      clear t99
      refine hK.out _ _ (HS _ bD) (fun hHeld => ?_)
      clear hK K
      try simp only [puts, gets]
      refine any_take (by kernel_rfl) (i := 73) (oi := _) (v := ?_) rfl rfl (by kernel_rfl) (by kernel_rfl) (by kernel_rfl) (fun _ _ _ h => h) (Or.inl ⟨by rfl, ?_⟩) hHeld ?_
      rotate_left
      · intro w' hSw; try dsimp only at hSw
        go_simp
        try with_reducible rfl
      try simp only [puts, gets]
      refine any_take (by kernel_rfl) (i := 74) (oi := _) (v := ?_) rfl rfl (by kernel_rfl) (by kernel_rfl) (by kernel_rfl) (fun _ _ _ h => h) (Or.inl ⟨by rfl, ?_⟩) hHeld ?_
      rotate_left
      · intro w' hSw; try dsimp only at hSw
        go_simp
        try with_reducible rfl
      try simp only [puts, gets]
      refine any_take (by kernel_rfl) (i := 75) (oi := _) (v := ?_) rfl rfl (by kernel_rfl) (by kernel_rfl) (by kernel_rfl) (fun _ _ _ h => h) (Or.inl ⟨by rfl, ?_⟩) hHeld ?_
      rotate_left
      · intro w' hSw; try dsimp only at hSw
        go_simp
        try with_reducible rfl
      try simp only [puts, gets]
      refine any_done (by kernel_rfl) ?_ _
      refine NoPanic.normal ?_
      go_wp2
      go_ret
      exact ⟨rfl, below_trans b0 bD⟩
end Go.Proofs.Ytcembocnkndlhaa
