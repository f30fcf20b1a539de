/- The reference's walk: Write. -/
import Derived.Test.YtcembocnkndlhaaRg
import Derived.Test.YtcembocnkndlhaaRe
namespace Go.Proofs.Ytcembocnkndlhaa
open Go.RowKit
set_option maxHeartbeats 4000000 in
set_option maxRecDepth 100000 in
theorem rWrite_any (v : Value) (d : Dk) (k : Int) (bv : Value) (l : List UInt8) (w : World) (h : IsDisk w v d) (hb : IsBytes w bv l) (hl : d.writes.length ≤ 100000000) :
    Calls Try.prog 20 #[v, .int .i64 k, bv] w (DiskErr (writeD d k l) w) := by
  have h0 := h
  have hb0 := hb
  obtain ⟨pa, pc, wa, wcp, rfl, hp, hw, m1, m2, m3⟩ := h.shape
  obtain ⟨ba, bc, rfl, -, mb⟩ := hb
  obtain ⟨C, hC⟩ : ∃ C, C = Obj.cells #[.slice pa d.pages.length pc, .slice wa d.writes.length wcp, .bool d.down] 25 := ⟨_, rfl⟩
  obtain ⟨Z, hZ⟩ : ∃ Z, Z = Obj.cells #[.slice none 0 0, .slice none 0 0, .bool false] 25 := ⟨_, rfl⟩
  obtain ⟨wb, hwb⟩ : ∃ x : World, x = (w.alloc C).alloc Z := ⟨_, rfl⟩
  have b1 := below_new w C
  have b2 : Below (w.alloc C).heap.size (w.alloc C) wb := by subst hwb; exact below_new _ _
  have b0 := below_trans b1 b2
  have g0 : wb.heap[w.heap.size]? = some (.cells #[.slice pa d.pages.length pc, .slice wa d.writes.length wcp, .bool d.down] 25 (0, 0)) := by
    subst hC; exact box_at b2
  have g1 : wb.heap[w.heap.size + 1]? = some (.cells #[.slice none 0 0, .slice none 0 0, .bool false] 25 (0, 0)) := by
    subst hwb hZ
    have := heap_alloc_new (w.alloc C) (.cells #[.slice none 0 0, .slice none 0 0, .bool false] 25)
    simpa using this
  have hsb : w.heap.size + 1 + 1 ≤ wb.heap.size := by subst hwb; simp
  by_cases h64 : 64 < l.length
  · have H := Lib.hid (show writeD d k l = (noDisk, 1) by unfold writeD; rw [if_pos (by omega)])
    go_enter Try.func20, Try.ntmps20
    go_wp2
    refine bodyPost_ret (v := .tuple #[zeroV, .int .i64 1]) (by simp [results, Try.results20, go_sem, zeroV]) rfl ?_
    rw [← hC, ← hZ, ← hwb]
    exact ⟨zeroV, by rw [H.out], by rw [H.out]; exact IsDisk.zero _, b0⟩
  have h64' : l.length ≤ 64 := by omega
  by_cases hf : failure d k = 0
  case neg =>
    have H := Lib.hid (show writeD d k l = (noDisk, failure d k) by unfold writeD; rw [if_neg h64, if_pos hf])
    have hne := ne_beq hf
    have hbq : (failure d k != 0) = true := by simpa using hf
    generalize hR : failure d k = R at *
    have HR := Lib.hid hR
    clear hR
    go_enter Try.func20, Try.ntmps20
    go_wp2_with fail
    rw [← hC, ← hZ, ← hwb]
    refine (rfailure_eq (h0.keep b0) _ HR.out).mono ?_
    rintro e w3 ⟨rfl, b3⟩
    obtain ⟨u0, u1, u2, uf0, uf1, uf2⟩ := Box3.of (block_keep g1 b3)
    go_wp2
    refine bodyPost_ret (v := .tuple #[zeroV, .int .i64 R]) (by simp [results, Try.results20, go_sem, zeroV, u0, u1, u2]) rfl ?_
    refine ⟨zeroV, by rw [H.out], by rw [H.out]; exact IsDisk.zero _, ?_⟩
    exact (((below_trans b0 b3).setCell (p := ⟨w.heap.size + 1, 0, none⟩) (by simp) _).setCell (p := ⟨w.heap.size + 1, 1, none⟩) (by simp) _).setCell (p := ⟨w.heap.size + 1, 2, none⟩) (by simp) _
  have hform := (failure_zero hf).1
  have H := Lib.hid (show writeD d k l = (⟨d.pages, d.writes ++ [⟨k, rfull l⟩], false⟩, 0) by unfold writeD; rw [if_neg h64, if_neg (by simp [hf]), full_rfull h64', (failure_zero hf).2.1])
  have HW := Lib.hid (((formed_iff d).1 hform).2.2.1)
  have HP := Lib.hid (((formed_iff d).1 hform).2.1)
  have hpl : d.pages.length ≤ 400 := ((formed_iff d).1 hform).1
  have HF := Lib.hid hf
  clear hf hform
  go_enter Try.func20, Try.ntmps20
  go_wp2_with fail
  rw [← hC, ← hZ, ← hwb]
  clear hC hZ hwb b2
  refine (rfailure_eq (h0.keep b0) _ HF.out).mono ?_
  rintro e w3 ⟨rfl, b3⟩
  have b03 := below_trans b0 b3
  obtain ⟨y0, y1, y2, -, -, -⟩ := Box3.of (block_keep g0 b3)
  go_wp2_with fail
  refine (rpages_any _ d.pages _ (hp.keep b03) (by omega) (Lib.hid fun p hp => by have := HP.out p hp; omega)).mono ?_
  rintro e w5 ⟨pv, rfl, hO5, b5⟩
  obtain ⟨va, vc, rfl, hvc⟩ := hO5.len
  have hIP : IsPages w5 (.slice va d.pages.length vc) d.pages := hO5.is (by omega) fun p hp => by have := HP.out p hp; omega
  have b35 := below_trans b3 b5
  have b05 := below_trans b0 b35
  have g05 := block_keep g0 b35
  have g15 := block_keep g1 b35
  have hs5 := b35.size
  have hR5 := Lib.hid hO5
  clear y0 y1 y2 hO5 g0 g1
  have hg5 := heap_alloc_new w5 (.cells #[.slice va d.pages.length vc, .slice none 0 0, .bool false] 25)
  have bN5 := below_new w5 (.cells #[.slice va d.pages.length vc, .slice none 0 0, .bool false] 25)
  have hsz5 : w5.heap.size + 1 ≤ (w5.alloc (.cells #[.slice va d.pages.length vc, .slice none 0 0, .bool false] 25)).heap.size := by simp
  obtain ⟨y0, y1, y2, -, -, -⟩ := Box3.of (block_keep g05 bN5)
  go_wp2
  go_loopw [10] (fun i wr => ∃ (j : Nat) (wv : Value), j ≤ d.writes.length ∧ i = .int .i64 j ∧ wr.heap[w5.heap.size]? = some (.cells #[.slice va d.pages.length vc, wv, .bool false] 25 (0, 0)) ∧ OwnW wr (w5.heap.size + 1) wv (d.writes.take j) ∧ Below w5.heap.size w5 wr ∧ w5.heap.size + 1 ≤ wr.heap.size) (fun i _ => d.writes.length - (intOf i).toNat)
  case atStart => exact ⟨0, _, Nat.zero_le _, rfl, hg5, OwnW.nil _ _, bN5, hsz5⟩
  case round =>
    obtain ⟨j, wv, hj, rfl, hgr, hOr, hbr, hsr⟩ := hrel
    obtain ⟨wo, rfl⟩ : ∃ wo : World, wo = wr := ⟨_, rfl⟩
    clear y0 y1 y2
    obtain ⟨y0, y1, y2, -, -, -⟩ := Box3.of (block_keep g05 hbr)
    have b0o := below_trans b05 hbr
    obtain ⟨xa, xc, rfl, hxc⟩ := hOr.len
    obtain ⟨z0, z1, z2, zf0, zf1, zf2⟩ := Box3.of hgr
    have h5a : w.heap.size ≠ w5.heap.size := by omega
    have h5b : w.heap.size + 1 ≠ w5.heap.size := by omega
    have HS2 : ∀ W, Below (w5.heap.size + 1) wo W → W.cell? ⟨w5.heap.size, 0, none⟩ = some (.slice va d.pages.length vc) ∧ W.cell? ⟨w5.heap.size, 1, none⟩ = some (.slice xa (d.writes.take j).length xc) ∧ W.frozen? ⟨w5.heap.size, 1, none⟩ = false := fun W hW =>
      ⟨(hW.cell (p := ⟨w5.heap.size, 0, none⟩) (by simp)).trans z0, (hW.cell (p := ⟨w5.heap.size, 1, none⟩) (by simp)).trans z1, (hW.frozen (p := ⟨w5.heap.size, 1, none⟩) (by simp)).trans zf1⟩
    have HY : ∀ W, Below w5.heap.size wo W → W.cell? ⟨w.heap.size, 1, none⟩ = some (.slice wa d.writes.length wcp) := fun W hW => (hW.cell (p := ⟨w.heap.size, 1, none⟩) (by simp; omega)).trans y1
    have hTl : (d.writes.take j).length = j := by rw [List.length_take]; omega
    have HTL := Lib.hid hTl
    have hTb : (d.writes.take j).length ≤ 1000000000 := by omega
    by_cases hlt : j < d.writes.length
    · obtain ⟨b, off, da, dc, rfl, c0, c1, hB⟩ := hw.at_ (List.getElem?_eq_getElem hlt)
      have HM := Lib.hid (HW.out d.writes[j] (List.getElem_mem hlt))
      have HT := Lib.hid (List.take_succ_eq_append_getElem hlt)
      have HC0 : ∀ W, Below w.heap.size w W → W.cell? ⟨b, off + j * 2, none⟩ = some (.int .i64 d.writes[j].at_) := fun W hW => cell_keep hW c0
      have HC1 : ∀ W, Below w.heap.size w W → W.cell? ⟨b, off + j * 2 + 1, none⟩ = some (.slice da d.writes[j].data.length dc) := fun W hW => cell_keep hW c1
      have HB := fun W (hW : Below w.heap.size w W) => IsBytes.keep hB hW
      generalize d.writes[j] = x at *
      generalize d.writes.take j = T at *
      clear c0 c1 hTl
      have hI0 : (0 : Int) ≤ (j : Int) := by omega
      have hI1 : (j : Int) < (d.writes.length : Int) := by omega
      have hxl : x.data.length ≤ 100000 := by have := HM.out.2.2; omega
      have HALL : ∀ W, Below wo.heap.size wo W → W.cell? ⟨w5.heap.size, 1, none⟩ = some (.slice xa T.length xc) ∧ W.cell? ⟨w.heap.size, 1, none⟩ = some (.slice (some ⟨b, off, none⟩) d.writes.length wcp) ∧ W.cell? ⟨b, off + j * 2, none⟩ = some (.int .i64 x.at_) ∧ W.cell? ⟨b, off + j * 2 + 1, none⟩ = some (.slice da x.data.length dc) := fun W hW =>
        ⟨(HS2 W (hW.mono hsr)).2.1, HY W (hW.mono (by omega)), HC0 W (below_trans b0o hW), HC1 W (below_trans b0o hW)⟩
      have HALL2 : ∀ W, Below (w5.heap.size + 1) wo W → W.cell? ⟨w5.heap.size, 1, none⟩ = some (.slice xa T.length xc) ∧ W.cell? ⟨w.heap.size, 1, none⟩ = some (.slice (some ⟨b, off, none⟩) d.writes.length wcp) ∧ W.cell? ⟨b, off + j * 2, none⟩ = some (.int .i64 x.at_) ∧ W.cell? ⟨b, off + j * 2 + 1, none⟩ = some (.slice da x.data.length dc) := fun W hW =>
        ⟨(HS2 W hW).2.1, HY W (hW.mono (by omega)), HC0 W (b0o.trans (hW.mono (by omega))), HC1 W (b0o.trans (hW.mono (by omega)))⟩
      have hbse : w5.heap.size + 1 ≤ wo.heap.size := hsr
      go_wp2
      refine wp_region_noPanic ?_
      refine wp_region_late (fun w' => w'.cell? ⟨w5.heap.size, 1, none⟩ = some (.slice xa T.length xc) ∧ w'.cell? ⟨w.heap.size, 1, none⟩ = some (.slice (some ⟨b, off, none⟩) d.writes.length wcp) ∧ w'.cell? ⟨b, off + j * 2, none⟩ = some (.int .i64 x.at_) ∧ w'.cell? ⟨b, off + j * 2 + 1, none⟩ = some (.slice da x.data.length dc)) 19 (by kernel_rfl) (HALL _ (below_drew' (Below.refl _ _))) (fun hHeld => ?_)
      refine any_take (by kernel_rfl) (i := 0) (oi := _) (v := ?_) rfl rfl (by kernel_rfl) (by kernel_rfl) (by kernel_rfl) (fun _ _ _ h => h) (Or.inl ⟨by rfl, ?_⟩) hHeld ?_
      rotate_left
      · intro w' hSw; try dsimp only at hSw
        go_simp
        try with_reducible rfl
      try simp only [puts]
      refine any_take (by kernel_rfl) (i := 1) (oi := _) (v := ?_) rfl rfl (by kernel_rfl) (by kernel_rfl) (by kernel_rfl) (fun _ _ _ h => h) (Or.inl ⟨by rfl, ?_⟩) hHeld ?_
      rotate_left
      · intro w' hSw; try dsimp only at hSw
        go_simp
        try with_reducible rfl
      try simp only [puts]
      refine any_take (by kernel_rfl) (i := 2) (oi := _) (v := ?_) rfl rfl (by kernel_rfl) (by kernel_rfl) (by kernel_rfl) (fun _ _ _ h => h) (Or.inl ⟨by rfl, ?_⟩) hHeld ?_
      rotate_left
      · intro w' hSw; try dsimp only at hSw
        go_simp
        try with_reducible rfl
      try simp only [puts]
      refine any_take (by kernel_rfl) (i := 3) (oi := _) (v := ?_) rfl rfl (by kernel_rfl) (by kernel_rfl) (by kernel_rfl) (fun _ _ _ h => h) (Or.inl ⟨by rfl, ?_⟩) hHeld ?_
      rotate_left
      · intro w' hSw; try dsimp only at hSw
        go_simp
        try with_reducible rfl
      try simp only [puts]
      refine any_take (by kernel_rfl) (i := 4) (oi := _) (v := ?_) rfl rfl (by kernel_rfl) (by kernel_rfl) (by kernel_rfl) (fun _ _ _ h => h) (Or.inl ⟨by rfl, ?_⟩) hHeld ?_
      rotate_left
      · intro w' hSw; try dsimp only at hSw
        go_simp
        try with_reducible rfl
      try simp only [puts]
      refine any_take (by kernel_rfl) (i := 5) (oi := _) (v := ?_) rfl rfl (by kernel_rfl) (by kernel_rfl) (by kernel_rfl) (fun _ _ _ h => h) (Or.inl ⟨by rfl, ?_⟩) hHeld ?_
      rotate_left
      · intro w' hSw; try dsimp only at hSw
        go_simp
        try with_reducible rfl
      try simp only [puts]
      refine any_take (by kernel_rfl) (i := 6) (oi := _) (v := ?_) rfl rfl (by kernel_rfl) (by kernel_rfl) (by kernel_rfl) (fun _ _ _ h => h) (Or.inl ⟨by rfl, ?_⟩) hHeld ?_
      rotate_left
      · intro w' hSw; try dsimp only at hSw
        go_simp
        try with_reducible rfl
      try simp only [puts]
      refine any_take (by kernel_rfl) (i := 7) (oi := _) (v := ?_) rfl rfl (by kernel_rfl) (by kernel_rfl) (by kernel_rfl) (fun _ _ _ h => h) (Or.inl ⟨by rfl, ?_⟩) hHeld ?_
      rotate_left
      · intro w' hSw; try dsimp only at hSw
        go_simp
        try with_reducible rfl
      try simp only [puts]
      refine any_take (by kernel_rfl) (i := 8) (oi := _) (v := ?_) rfl rfl (by kernel_rfl) (by kernel_rfl) (by kernel_rfl) (fun _ _ _ h => h) (Or.inl ⟨by rfl, ?_⟩) hHeld ?_
      rotate_left
      · intro w' hSw; try dsimp only at hSw
        go_simp
        try with_reducible rfl
      try simp only [puts]
      refine any_take (by kernel_rfl) (i := 9) (oi := _) (v := ?_) rfl rfl (by kernel_rfl) (by kernel_rfl) (by kernel_rfl) (fun _ _ _ h => h) (Or.inl ⟨by rfl, ?_⟩) hHeld ?_
      rotate_left
      · intro w' hSw; try dsimp only at hSw
        go_simp
        try with_reducible rfl
      try simp only [puts]
      refine any_take (by kernel_rfl) (i := 10) (oi := _) (v := ?_) rfl rfl (by kernel_rfl) (by kernel_rfl) (by kernel_rfl) (fun _ _ _ h => h) (Or.inl ⟨by rfl, ?_⟩) hHeld ?_
      rotate_left
      · intro w' hSw; try dsimp only at hSw
        go_simp
        try with_reducible rfl
      try simp only [puts]
      refine any_take (by kernel_rfl) (i := 11) (oi := _) (v := ?_) rfl rfl (by kernel_rfl) (by kernel_rfl) (by kernel_rfl) (fun _ _ _ h => h) (Or.inl ⟨by rfl, ?_⟩) hHeld ?_
      rotate_left
      · intro w' hSw; try dsimp only at hSw
        go_simp
        try with_reducible rfl
      try simp only [puts]
      refine any_take (by kernel_rfl) (i := 12) (oi := _) (v := ?_) rfl rfl (by kernel_rfl) (by kernel_rfl) (by kernel_rfl) (fun _ _ _ h => h) (Or.inl ⟨by rfl, ?_⟩) hHeld ?_
      rotate_left
      · intro w' hSw; try dsimp only at hSw
        go_simp
        try with_reducible rfl
      try simp only [puts]
      refine any_take (by kernel_rfl) (i := 13) (oi := _) (v := ?_) rfl rfl (by kernel_rfl) (by kernel_rfl) (by kernel_rfl) (fun _ _ _ h => h) (Or.inl ⟨by rfl, ?_⟩) hHeld ?_
      rotate_left
      · intro w' hSw; try dsimp only at hSw
        go_simp
        try with_reducible rfl
      try simp only [puts]
      refine any_next (i := 14) (by kernel_rfl) rfl rfl (fun K hK => ?_)
      go_simp
      go_at_call 35
      refine rFull_ts (HB _ (below_trans b0o (below_drew' (Below.refl _ _)))) hxl ?_
      intro g c wF hF bF
      have hF : OwnB wF wo.heap.size (.slice (some ⟨g, 0, none⟩) (rfull x.data).length c) (rfull x.data) := hF
      have bF : Below wo.heap.size wo wF := below_undrew bF
      refine hK.out _ _ ?_ (fun hHeld => ?_)
      · exact HALL _ bF
      clear hK K
      try simp only [puts]
      refine any_take (by kernel_rfl) (i := 15) (oi := _) (v := ?_) rfl rfl (by kernel_rfl) (by kernel_rfl) (by kernel_rfl) (fun _ _ _ h => h) (Or.inl ⟨by rfl, ?_⟩) hHeld ?_
      rotate_left
      · intro w' hSw; try dsimp only at hSw
        go_simp
        try with_reducible rfl
      try simp only [puts]
      refine any_next (i := 16) (by kernel_rfl) rfl rfl (fun K hK => ?_)
      go_simp
      refine hK.out _ _ ?_ (fun hHeld => ?_)
      · exact HALL _ (below_alloc' bF)
      clear hK K
      try simp only [puts]
      refine any_next (i := 17) (by kernel_rfl) rfl rfl (fun K hK => ?_)
      refine step_pushW (wr := wo) (x := ⟨x.at_, rfull x.data⟩) (g1 := wF.heap.size) rfl (.tmp 34) (.tmp 49) (by rfl) (by rfl) (by rfl) hOr (below_alloc' bF) (OwnB.keep hF (below_new _ _)) hbse (heap_alloc_new wF _) hTb ?_
      intro g' cap' w6 hO6 b6
      refine hK.out _ _ ?_ (fun hHeld => ?_)
      · exact HALL2 _ b6
      clear hK K
      try simp only [puts]
      refine any_take (by kernel_rfl) (i := 18) (oi := _) (v := ?_) rfl rfl (by kernel_rfl) (by kernel_rfl) (by kernel_rfl) (fun _ _ _ h => h) (Or.inl ⟨by rfl, ?_⟩) hHeld ?_
      rotate_left
      · intro w' hSw; try dsimp only at hSw
        go_simp
        try with_reducible rfl
      try simp only [puts]
      refine any_late (i := 19) (by kernel_rfl) rfl rfl (fun K hK => ?_)
      go_simp
      refine hK.out _ _ ?_
      clear hK K
      try simp only [puts]
      refine any_done (by kernel_rfl) ?_ _
      refine NoPanic.normal ?_
      go_wp2
      go_roundw
      case rel =>
        have hg6 : w6.heap[w5.heap.size]? = some (.cells #[.slice va d.pages.length vc, .slice xa T.length xc, .bool false] 25 (0, 0)) := (b6.block _ (by omega)).trans hgr
        have e1 : (⟨x.at_, rfull x.data⟩ : Wt) = x := Wt.ext' rfl (rfull_self HM.out.2.2)
        rw [e1] at hO6
        refine ⟨j + 1, _, by omega, by go_num, box3_set1 hg6, ?_, (hbr.trans (b6.mono (by omega))).setCell (p := ⟨w5.heap.size, 1, none⟩) (by simp) _, by have := b6.size; simp [World.setCell]; omega⟩
        rw [HT.out]
        exact hO6.store (p := ⟨w5.heap.size, 1, none⟩) (by simp) _
      case measure => simp [intOf]; omega
    · have e : j = d.writes.length := by omega
      subst e
      rw [List.take_length] at hOr hgr HS2 hTb z1
      have HALL : ∀ W, Below wo.heap.size wo W → W.cell? ⟨w5.heap.size, 1, none⟩ = some (.slice xa d.writes.length xc) := fun W hW => (HS2 W (hW.mono hsr)).2.1
      have HALL2 : ∀ W, Below (w5.heap.size + 1) wo W → W.cell? ⟨w5.heap.size, 1, none⟩ = some (.slice xa d.writes.length xc) := fun W hW => (HS2 W hW).2.1
      have HF2 : ∀ W, Below (w5.heap.size + 1) wo W → W.frozen? ⟨w5.heap.size, 1, none⟩ = false := fun W hW => (HS2 W hW).2.2
      have HB := fun W (hW : Below w.heap.size w W) => IsBytes.keep hb0 hW
      have hbse : w5.heap.size + 1 ≤ wo.heap.size := hsr
      clear hTl HS2
      go_wp2
      refine wp_region_noPanic ?_
      refine wp_region_late (fun w' => w'.cell? ⟨w5.heap.size, 1, none⟩ = some (.slice xa d.writes.length xc)) 9 (by kernel_rfl) (HALL _ (below_drew' (Below.refl _ _))) (fun hHeld => ?_)
      refine any_take (by kernel_rfl) (i := 0) (oi := _) (v := ?_) rfl rfl (by kernel_rfl) (by kernel_rfl) (by kernel_rfl) (fun _ _ _ h => h) (Or.inl ⟨by rfl, ?_⟩) hHeld ?_
      rotate_left
      · intro w' hSw; try dsimp only at hSw
        go_simp
        try with_reducible rfl
      try simp only [puts]
      refine any_take (by kernel_rfl) (i := 1) (oi := _) (v := ?_) rfl rfl (by kernel_rfl) (by kernel_rfl) (by kernel_rfl) (fun _ _ _ h => h) (Or.inl ⟨by rfl, ?_⟩) hHeld ?_
      rotate_left
      · intro w' hSw; try dsimp only at hSw
        go_simp
        try with_reducible rfl
      try simp only [puts]
      refine any_take (by kernel_rfl) (i := 2) (oi := _) (v := ?_) rfl rfl (by kernel_rfl) (by kernel_rfl) (by kernel_rfl) (fun _ _ _ h => h) (Or.inl ⟨by rfl, ?_⟩) hHeld ?_
      rotate_left
      · intro w' hSw; try dsimp only at hSw
        go_simp
        try with_reducible rfl
      try simp only [puts]
      refine any_take (by kernel_rfl) (i := 3) (oi := _) (v := ?_) rfl rfl (by kernel_rfl) (by kernel_rfl) (by kernel_rfl) (fun _ _ _ h => h) (Or.inl ⟨by rfl, ?_⟩) hHeld ?_
      rotate_left
      · intro w' hSw; try dsimp only at hSw
        go_simp
        try with_reducible rfl
      try simp only [puts]
      refine any_next (i := 4) (by kernel_rfl) rfl rfl (fun K hK => ?_)
      go_simp
      go_at_call 35
      refine rFull_ts (HB _ (below_trans b0o (below_drew' (Below.refl _ _)))) (by omega) ?_
      intro g c wF hF bF
      have hF : OwnB wF wo.heap.size (.slice (some ⟨g, 0, none⟩) (rfull l).length c) (rfull l) := hF
      have bF : Below wo.heap.size wo wF := below_undrew bF
      refine hK.out _ _ ?_ (fun hHeld => ?_)
      · exact HALL _ bF
      clear hK K
      try simp only [puts]
      refine any_take (by kernel_rfl) (i := 5) (oi := _) (v := ?_) rfl rfl (by kernel_rfl) (by kernel_rfl) (by kernel_rfl) (fun _ _ _ h => h) (Or.inl ⟨by rfl, ?_⟩) hHeld ?_
      rotate_left
      · intro w' hSw; try dsimp only at hSw
        go_simp
        try with_reducible rfl
      try simp only [puts]
      refine any_next (i := 6) (by kernel_rfl) rfl rfl (fun K hK => ?_)
      go_simp
      refine hK.out _ _ ?_ (fun hHeld => ?_)
      · exact HALL _ (below_alloc' bF)
      clear hK K
      try simp only [puts]
      refine any_next (i := 7) (by kernel_rfl) rfl rfl (fun K hK => ?_)
      refine step_pushW (wr := wo) (x := ⟨k, rfull l⟩) (g1 := wF.heap.size) rfl (.tmp 53) (.tmp 58) (by rfl) (by rfl) (by rfl) hOr (below_alloc' bF) (OwnB.keep hF (below_new _ _)) hbse (heap_alloc_new wF _) hTb ?_
      intro g' cap' w6 hO6 b6
      have f6 := HF2 _ b6
      refine hK.out _ _ ?_ (fun hHeld => ?_)
      · exact HALL2 _ b6
      clear hK K
      try simp only [puts]
      refine any_take (by kernel_rfl) (i := 8) (oi := _) (v := ?_) rfl rfl (by kernel_rfl) (by kernel_rfl) (by kernel_rfl) (fun _ _ _ h => h) (Or.inl ⟨by rfl, ?_⟩) hHeld ?_
      rotate_left
      · intro w' hSw; try dsimp only at hSw
        go_simp
        try with_reducible rfl
      try simp only [puts]
      refine any_late (i := 9) (by kernel_rfl) rfl rfl (fun K hK => ?_)
      go_simp
      refine hK.out _ _ ?_
      clear hK K
      try simp only [puts]
      refine any_done (by kernel_rfl) ?_ _
      refine NoPanic.normal ?_
      have hg6 : w6.heap[w5.heap.size]? = some (.cells #[.slice va d.pages.length vc, .slice xa d.writes.length xc, .bool false] 25 (0, 0)) := (b6.block _ (by omega)).trans hgr
      have hg6' := box3_set1 (x := .slice (some ⟨g', 0, none⟩) (d.writes.length + 1) cap') hg6
      have bb6 : Below w5.heap.size w5 (w6.setCell ⟨w5.heap.size, 1, none⟩ (.slice (some ⟨g', 0, none⟩) (d.writes.length + 1) cap')) := (hbr.trans (b6.mono (by omega))).setCell (p := ⟨w5.heap.size, 1, none⟩) (by simp) _
      obtain ⟨y0, y1, y2, -, -, -⟩ := Box3.of hg6'
      obtain ⟨u0, u1, u2, uf0, uf1, uf2⟩ := Box3.of (block_keep g15 bb6)
      go_wp2
      refine bodyPost_ret (v := .tuple #[.agg #[.slice va d.pages.length vc, .slice (some ⟨g', 0, none⟩) (d.writes.length + 1) cap', .bool false], .int .i64 0]) (by simp [results, Try.results20, go_sem, u0, u1, u2]) rfl ?_
      have bF := (((below_trans b05 bb6).setCell (p := ⟨w.heap.size + 1, 0, none⟩) (by simp) (.slice va d.pages.length vc)).setCell (p := ⟨w.heap.size + 1, 1, none⟩) (by simp) (.slice (some ⟨g', 0, none⟩) (d.writes.length + 1) cap')).setCell (p := ⟨w.heap.size + 1, 2, none⟩) (by simp) (.bool false)
      have pF := (((hO6.store (p := ⟨w5.heap.size, 1, none⟩) (by simp) (.slice (some ⟨g', 0, none⟩) (d.writes.length + 1) cap')).store (p := ⟨w.heap.size + 1, 0, none⟩) (by simp; omega) (.slice va d.pages.length vc)).store (p := ⟨w.heap.size + 1, 1, none⟩) (by simp; omega) (.slice (some ⟨g', 0, none⟩) (d.writes.length + 1) cap')).store (p := ⟨w.heap.size + 1, 2, none⟩) (by simp; omega) (.bool false)
      have hs3 := b3.size
      have rF := ((((hR5.out.keep bb6)).store (p := ⟨w.heap.size + 1, 0, none⟩) (by simp; omega) (.slice va d.pages.length vc)).store (p := ⟨w.heap.size + 1, 1, none⟩) (by simp; omega) (.slice (some ⟨g', 0, none⟩) (d.writes.length + 1) cap')).store (p := ⟨w.heap.size + 1, 2, none⟩) (by simp; omega) (.bool false)
      refine ⟨_, by rw [H.out], ?_, bF⟩
      rw [H.out]
      refine ⟨_, _, rfl, rF.is (by omega) fun p hp => by have := HP.out p hp; omega, pF.is (by simp; omega) fun x hx => ?_⟩
      rcases List.mem_append.1 hx with hx | hx
      · have := (HW.out x hx).2.2; omega
      · obtain rfl := List.mem_singleton.1 hx
        simp [rfull, zeros]; omega
end Go.Proofs.Ytcembocnkndlhaa

