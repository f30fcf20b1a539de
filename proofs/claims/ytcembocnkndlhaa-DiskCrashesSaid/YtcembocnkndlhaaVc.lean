/- The law's function 'written': the first writes of a disk, made anew. -/
import Derived.Test.YtcembocnkndlhaaRm
namespace Go.Proofs.Ytcembocnkndlhaa
open Go.RowKit
theorem writeoff_ts {B : Nat → Prop} {v : Value} {d d' : Dk} {k : Int} {bv : Value} {l : List UInt8} {w : World} {Q : Ending → World → Prop} (ho : OffDisk B w v d) (hB : ∀ β, B β → β < w.heap.size) (hb : IsBytes w bv l) (hl : d.writes.length ≤ 100000000) (hr : Hid (writeD d k l = (d', 0)))
    (q : ∀ pa pc wa wc w', OffDisk B w' (.agg #[.slice pa d'.pages.length pc, .slice wa d'.writes.length wc, .bool d'.down]) d' → Below w.heap.size w w' → Q (.returned (.tuple #[.agg #[.slice pa d'.pages.length pc, .slice wa d'.writes.length wc, .bool d'.down], .int .i64 0])) w') : Calls Try.prog 19 #[v, .int .i64 k, bv] w Q :=
  (Write_off B v d k bv l w ho hB hb hl).mono fun e w' hres => by
    obtain ⟨pa, pc, wa, wc, rfl, hD, hBb⟩ := hres.to hr
    exact q pa pc wa wc w' hD hBb
theorem formed_take {d : Dk} (hf : formed d = true) (j : Nat) : formed ⟨d.pages, d.writes.take j, false⟩ = true := by
  obtain ⟨h1, h2, h3, h4⟩ := (formed_iff d).1 hf
  exact (formed_iff _).2 ⟨h1, h2, fun x hx => h3 x (List.mem_of_mem_take hx), fun e => by cases e⟩
theorem write_take {d : Dk} (hf : formed d = true) {j : Nat} (hj : j < d.writes.length) : writeD ⟨d.pages, d.writes.take j, false⟩ d.writes[j].at_ d.writes[j].data = (⟨d.pages, d.writes.take (j + 1), false⟩, 0) := by
  obtain ⟨h1, h2, h3, h4⟩ := (formed_iff d).1 hf
  obtain ⟨a, b, c⟩ := h3 d.writes[j] (List.getElem_mem hj)
  rw [writeD_ok (formed_take hf j) rfl a b (by omega), full_self c, List.take_succ_eq_append_getElem hj]
theorem OffDisk.shrink {B B' : Nat → Prop} {w : World} {v : Value} {d : Dk} (h : OffDisk B' w v d) (hs : ∀ i, B i → B' i) : OffDisk B w v d := by
  obtain ⟨pv, wv, ps, hv, hl, hAll⟩ := h
  exact ⟨pv, wv, ps, hv, hl, fun W hW => hAll W fun i hi hB => hW i hi fun e => hB (hs i e)⟩
theorem OffDisk.widen {B B' : Nat → Prop} {w w' : World} {v : Value} {d : Dk} (h : OffDisk B w v d) (hb : Below w.heap.size w w') (hs : ∀ i, i < w.heap.size → B' i → B i) : OffDisk B' w' v d := by
  obtain ⟨pv, wv, ps, hv, hl, hAll⟩ := h
  exact ⟨pv, wv, ps, hv, hl, fun W hW => hAll W fun i hi hB => (hW i (Nat.lt_of_lt_of_le hi hb.size) fun e => hB (hs i hi e)).trans (hb.block i hi)⟩
set_option maxHeartbeats 4000000 in
set_option maxRecDepth 100000 in
theorem written_any (v : Value) (d : Dk) (m : Nat) (w : World) (h : IsDisk w v d) (hf : formed d = true) (hwl : d.writes.length ≤ 1000) (hm : m ≤ d.writes.length) : Calls Try.prog 36 #[v, .int .i64 m] w (DiskRet ⟨d.pages, d.writes.take m, false⟩ w) := by
  have HF := Lib.hid hf
  clear hf
  obtain ⟨pa, pc, wa, wcp, rfl, hp, hw, m1, m2, m3⟩ := h.shape
  obtain ⟨C, hC⟩ : ∃ C, C = Obj.cells #[.slice pa d.pages.length pc, .slice wa d.writes.length wcp, .bool d.down] 25 := ⟨_, rfl⟩
  obtain ⟨Z, hZ⟩ : ∃ Z, Z = Obj.cells #[.slice none 0 0, .slice none 0 0, .bool false] 25 := ⟨_, rfl⟩
  obtain ⟨Y, hY⟩ : ∃ Y, Y = Obj.cells #[.slice pa d.pages.length pc, .slice none 0 0, .bool false] 25 := ⟨_, rfl⟩
  obtain ⟨wb, hwb⟩ : ∃ x : World, x = ((w.alloc C).alloc Z).alloc Y := ⟨_, rfl⟩
  have b1 := below_new w C
  have b2 : Below (w.alloc C).heap.size (w.alloc C) wb := by subst hwb; exact below_trans (below_new _ _) (below_new _ _)
  have b0 := below_trans b1 b2
  have g0 : wb.heap[w.heap.size]? = some (.cells #[.slice pa d.pages.length pc, .slice wa d.writes.length wcp, .bool d.down] 25 (0, 0)) := by
    subst hC; exact box_at b2
  have g1 : wb.heap[w.heap.size + 1]? = some (.cells #[.slice none 0 0, .slice none 0 0, .bool false] 25 (0, 0)) := by
    subst hwb hZ
    have := heap_alloc_new (w.alloc C) (.cells #[.slice none 0 0, .slice none 0 0, .bool false] 25)
    exact block_keep (by simpa using this) (below_new _ _)
  have g2 : wb.heap[w.heap.size + 1 + 1]? = some (.cells #[.slice pa d.pages.length pc, .slice none 0 0, .bool false] 25 (0, 0)) := by
    subst hwb hY
    have := heap_alloc_new ((w.alloc C).alloc Z) (.cells #[.slice pa d.pages.length pc, .slice none 0 0, .bool false] 25)
    simpa using this
  have hsb : w.heap.size + 1 + 1 < wb.heap.size := by subst hwb; simp
  have o0 : OffDisk (fun i => i = w.heap.size + 1 ∨ i = w.heap.size + 1 + 1) wb (.agg #[.slice pa d.pages.length pc, .slice none (d.writes.take 0).length 0, .bool false]) ⟨d.pages, d.writes.take 0, false⟩ :=
    IsDisk.off (w := w) ⟨_, _, rfl, hp, IsWrites.nil w⟩ b0 (by rintro _ (rfl | rfl) <;> omega)
  have O0 := Lib.hid o0
  clear o0
  go_enter Try.func36, Try.ntmps36
  go_upto_region 1 with fail
  rw [← hC, ← hZ]
  obtain ⟨wz, hwz⟩ : ∃ x : World, x = (w.alloc C).alloc Z := ⟨_, rfl⟩
  have gz : wz.heap[w.heap.size]? = some (.cells #[.slice pa d.pages.length pc, .slice wa d.writes.length wcp, .bool d.down] 25 (0, 0)) := by
    subst hwz hC; exact box_at (below_new _ _)
  have hsz : wz.heap.size = w.heap.size + 1 + 1 := by subst hwz; simp
  rw [← hwz]
  rw [← hwz] at hwb
  obtain ⟨y0, y1, y2, -, -, -⟩ := Box3.of gz
  have HSZ := Lib.hid hsz
  clear hsz hwz gz
  go_upto_region 2 with fail
  clear y0 y1 y2
  rw [← hY, ← hwb, HSZ.out]
  clear hC hZ hY hwb HSZ b1 b2 h hp
  go_wp2
  go_loopw [6] (fun i wr => ∃ (j : Nat) (p1 : Option Addr) (c1 : Nat) (p2 : Option Addr) (c2 : Nat), j ≤ m ∧ i = .int .i64 j ∧ wr.heap[w.heap.size + 1 + 1]? = some (.cells #[.slice p1 d.pages.length c1, .slice p2 (d.writes.take j).length c2, .bool false] 25 (0, 0)) ∧ Hid (OffDisk (fun i => i = w.heap.size + 1 ∨ i = w.heap.size + 1 + 1) wr (.agg #[.slice p1 d.pages.length c1, .slice p2 (d.writes.take j).length c2, .bool false]) ⟨d.pages, d.writes.take j, false⟩) ∧ Below (w.heap.size + 1 + 1) wb wr ∧ wb.heap.size ≤ wr.heap.size) (fun i _ => m - (intOf i).toNat)
  case atStart => exact ⟨0, _, _, _, _, Nat.zero_le _, rfl, g2, O0, Below.refl _ _, Nat.le_refl _⟩
  case round =>
    obtain ⟨j, p1, c1, p2, c2, hj, rfl, hgr, hO, hbr, hsr⟩ := hrel
    obtain ⟨wo, rfl⟩ : ∃ wo : World, wo = wr := ⟨_, rfl⟩
    have hO := hO.out
    have g0r := (hbr.block w.heap.size (by omega)).trans g0
    have g1r := (hbr.block (w.heap.size + 1) (by omega)).trans g1
    have b0r := b0.trans (hbr.mono (by omega))
    obtain ⟨z0, z1, z2, zf0, zf1, zf2⟩ := Box3.of hgr
    obtain ⟨y0, y1, y2, -, -, -⟩ := Box3.of g0r
    have hTl : (d.writes.take j).length = j := by rw [List.length_take]; omega
    by_cases hlt : j < m
    · have hlt2 : j < d.writes.length := by omega
      obtain ⟨b, off, da, dc, rfl, k0, k1, hB⟩ := hw.at_ (List.getElem?_eq_getElem hlt2)
      have HW := Lib.hid (write_take HF.out hlt2)
      have hTb : (d.writes.take j).length ≤ 100000000 := by omega
      have HC0 := cell_keep b0r k0
      have HC1 := cell_keep b0r k1
      have hB := hB.keep b0r
      generalize d.writes[j] = x at *
      generalize d.writes.take j = T at *
      generalize hT2 : d.writes.take (j + 1) = T2 at *
      have HT2 := Lib.hid hT2
      clear k0 k1 hTl hT2
      have hI0 : (0 : Int) ≤ (j : Int) := by omega
      have hI1 : (j : Int) < (d.writes.length : Int) := by omega
      have HALL : ∀ W, Below wo.heap.size wo W → W.cell? ⟨w.heap.size + 1 + 1, 0, none⟩ = some (.slice p1 d.pages.length c1) ∧ W.cell? ⟨w.heap.size + 1 + 1, 1, none⟩ = some (.slice p2 T.length c2) ∧ W.cell? ⟨w.heap.size + 1 + 1, 2, none⟩ = some (.bool false) ∧ W.cell? ⟨w.heap.size, 1, none⟩ = some (.slice (some ⟨b, off, none⟩) d.writes.length wcp) ∧ W.cell? ⟨b, off + j * 2, none⟩ = some (.int .i64 x.at_) ∧ W.cell? ⟨b, off + j * 2 + 1, none⟩ = some (.slice da x.data.length dc) := fun W hW =>
        ⟨cell_keep hW z0, cell_keep hW z1, cell_keep hW z2, cell_keep hW y1, cell_keep hW HC0, cell_keep hW HC1⟩
      have hBlt : ∀ β, (fun i => i = w.heap.size + 1 ∨ i = w.heap.size + 1 + 1) β → β < wo.heap.size := by rintro _ (rfl | rfl) <;> omega
      go_wp2
      refine wp_region_noPanic ?_
      refine wp_region_late (fun w' => w'.cell? ⟨w.heap.size + 1 + 1, 0, none⟩ = some (.slice p1 d.pages.length c1) ∧ w'.cell? ⟨w.heap.size + 1 + 1, 1, none⟩ = some (.slice p2 T.length c2) ∧ w'.cell? ⟨w.heap.size + 1 + 1, 2, none⟩ = some (.bool false) ∧ w'.cell? ⟨w.heap.size, 1, none⟩ = some (.slice (some ⟨b, off, none⟩) d.writes.length wcp) ∧ w'.cell? ⟨b, off + j * 2, none⟩ = some (.int .i64 x.at_) ∧ w'.cell? ⟨b, off + j * 2 + 1, none⟩ = some (.slice da x.data.length dc)) 20 (by kernel_rfl) (HALL _ (below_drew' (Below.refl _ _))) (fun hHeld => ?_)
      refine any_take (by kernel_rfl) (i := 0) (oi := _) (v := ?_) rfl rfl (by kernel_rfl) (by kernel_rfl) (by kernel_rfl) (fun _ _ _ h => h) (Or.inl ⟨by rfl, ?_⟩) hHeld ?_
      rotate_left
      · intro w' hSw; try dsimp only at hSw
        go_simp
        try with_reducible rfl
      try simp only [puts, gets]
      refine any_take (by kernel_rfl) (i := 1) (oi := _) (v := ?_) rfl rfl (by kernel_rfl) (by kernel_rfl) (by kernel_rfl) (fun _ _ _ h => h) (Or.inl ⟨by rfl, ?_⟩) hHeld ?_
      rotate_left
      · intro w' hSw; try dsimp only at hSw
        go_simp
        try with_reducible rfl
      try simp only [puts, gets]
      refine any_take (by kernel_rfl) (i := 2) (oi := _) (v := ?_) rfl rfl (by kernel_rfl) (by kernel_rfl) (by kernel_rfl) (fun _ _ _ h => h) (Or.inl ⟨by rfl, ?_⟩) hHeld ?_
      rotate_left
      · intro w' hSw; try dsimp only at hSw
        go_simp
        try with_reducible rfl
      try simp only [puts, gets]
      refine any_take (by kernel_rfl) (i := 3) (oi := _) (v := ?_) rfl rfl (by kernel_rfl) (by kernel_rfl) (by kernel_rfl) (fun _ _ _ h => h) (Or.inl ⟨by rfl, ?_⟩) hHeld ?_
      rotate_left
      · intro w' hSw; try dsimp only at hSw
        go_simp
        try with_reducible rfl
      try simp only [puts, gets]
      refine any_take (by kernel_rfl) (i := 4) (oi := _) (v := ?_) rfl rfl (by kernel_rfl) (by kernel_rfl) (by kernel_rfl) (fun _ _ _ h => h) (Or.inl ⟨by rfl, ?_⟩) hHeld ?_
      rotate_left
      · intro w' hSw; try dsimp only at hSw
        go_simp
        try with_reducible rfl
      try simp only [puts, gets]
      refine any_take (by kernel_rfl) (i := 5) (oi := _) (v := ?_) rfl rfl (by kernel_rfl) (by kernel_rfl) (by kernel_rfl) (fun _ _ _ h => h) (Or.inl ⟨by rfl, ?_⟩) hHeld ?_
      rotate_left
      · intro w' hSw; try dsimp only at hSw
        go_simp
        try with_reducible rfl
      try simp only [puts, gets]
      refine any_take (by kernel_rfl) (i := 6) (oi := _) (v := ?_) rfl rfl (by kernel_rfl) (by kernel_rfl) (by kernel_rfl) (fun _ _ _ h => h) (Or.inl ⟨by rfl, ?_⟩) hHeld ?_
      rotate_left
      · intro w' hSw; try dsimp only at hSw
        go_simp
        try with_reducible rfl
      try simp only [puts, gets]
      refine any_take (by kernel_rfl) (i := 7) (oi := _) (v := ?_) rfl rfl (by kernel_rfl) (by kernel_rfl) (by kernel_rfl) (fun _ _ _ h => h) (Or.inl ⟨by rfl, ?_⟩) hHeld ?_
      rotate_left
      · intro w' hSw; try dsimp only at hSw
        go_simp
        try with_reducible rfl
      try simp only [puts, gets]
      refine any_take (by kernel_rfl) (i := 8) (oi := _) (v := ?_) rfl rfl (by kernel_rfl) (by kernel_rfl) (by kernel_rfl) (fun _ _ _ h => h) (Or.inl ⟨by rfl, ?_⟩) hHeld ?_
      rotate_left
      · intro w' hSw; try dsimp only at hSw
        go_simp
        try with_reducible rfl
      try simp only [puts, gets]
      refine any_take (by kernel_rfl) (i := 9) (oi := _) (v := ?_) rfl rfl (by kernel_rfl) (by kernel_rfl) (by kernel_rfl) (fun _ _ _ h => h) (Or.inl ⟨by rfl, ?_⟩) hHeld ?_
      rotate_left
      · intro w' hSw; try dsimp only at hSw
        go_simp
        try with_reducible rfl
      try simp only [puts, gets]
      refine any_take (by kernel_rfl) (i := 10) (oi := _) (v := ?_) rfl rfl (by kernel_rfl) (by kernel_rfl) (by kernel_rfl) (fun _ _ _ h => h) (Or.inl ⟨by rfl, ?_⟩) hHeld ?_
      rotate_left
      · intro w' hSw; try dsimp only at hSw
        go_simp
        try with_reducible rfl
      try simp only [puts, gets]
      refine any_take (by kernel_rfl) (i := 11) (oi := _) (v := ?_) rfl rfl (by kernel_rfl) (by kernel_rfl) (by kernel_rfl) (fun _ _ _ h => h) (Or.inl ⟨by rfl, ?_⟩) hHeld ?_
      rotate_left
      · intro w' hSw; try dsimp only at hSw
        go_simp
        try with_reducible rfl
      try simp only [puts, gets]
      refine any_take (by kernel_rfl) (i := 12) (oi := _) (v := ?_) rfl rfl (by kernel_rfl) (by kernel_rfl) (by kernel_rfl) (fun _ _ _ h => h) (Or.inl ⟨by rfl, ?_⟩) hHeld ?_
      rotate_left
      · intro w' hSw; try dsimp only at hSw
        go_simp
        try with_reducible rfl
      try simp only [puts, gets]
      refine any_two (i := 13) (j := 17) (by kernel_rfl) rfl rfl rfl rfl (fun K hK => ?_) (fun K hK => ?_)
      · go_simp
        go_at_call 19
        refine writeoff_ts (hO.keep (below_drew' (Below.refl _ _))) hBlt (hB.keep (below_drew' (Below.refl _ _))) hTb HW ?_
        intro qa qc ra rc w5 o5 b5
        have b5 : Below wo.heap.size wo w5 := below_undrew b5
        refine hK.out _ _ ?_ (fun hHeld => ?_)
        · exact HALL _ b5
        clear hK K
        refine any_take (by kernel_rfl) (i := 14) (oi := _) (v := ?_) rfl rfl (by kernel_rfl) (by kernel_rfl) (by kernel_rfl) (fun _ _ _ h => h) (Or.inl ⟨by rfl, ?_⟩) hHeld ?_
        rotate_left
        · intro w' hSw; try dsimp only at hSw
          go_simp
          try with_reducible rfl
        try simp only [puts, gets]
        refine any_take (by kernel_rfl) (i := 15) (oi := _) (v := ?_) rfl rfl (by kernel_rfl) (by kernel_rfl) (by kernel_rfl) (fun _ _ _ h => h) (Or.inl ⟨by rfl, ?_⟩) hHeld ?_
        rotate_left
        · intro w' hSw; try dsimp only at hSw
          go_simp
          try with_reducible rfl
        try simp only [puts, gets]
        refine any_take (by kernel_rfl) (i := 16) (oi := _) (v := ?_) rfl rfl (by kernel_rfl) (by kernel_rfl) (by kernel_rfl) (fun _ _ _ h => h) (Or.inl ⟨by rfl, ?_⟩) hHeld ?_
        rotate_left
        · intro w' hSw; try dsimp only at hSw
          go_simp
          try with_reducible rfl
        try simp only [puts, gets]
        refine any_next (i := 17) (by kernel_rfl) rfl rfl (fun K hK => ?_)
        go_simp
        refine hK.out _ _ ?_ (fun hHeld => ?_)
        · exact HALL _ (below_alloc' b5)
        clear hK K
        try simp only [puts, gets]
        refine any_next (i := 18) (by kernel_rfl) rfl rfl (fun K hK => ?_)
        go_simp
        refine hK.out _ _ ?_ (fun hHeld => ?_)
        · exact HALL _ (below_alloc' b5)
        clear hK K
        try simp only [puts, gets]
        refine any_take (by kernel_rfl) (i := 19) (oi := _) (v := ?_) rfl rfl (by kernel_rfl) (by kernel_rfl) (by kernel_rfl) (fun _ _ _ h => h) (Or.inl ⟨by rfl, ?_⟩) hHeld ?_
        rotate_left
        · intro w' hSw; try dsimp only at hSw
          go_simp
          try with_reducible rfl
        try simp only [puts, gets]
        refine any_done (by kernel_rfl) ?_ _
        refine NoPanic.normal ?_
        have gN := heap_alloc_new w5 (.cells #[.slice qa d.pages.length qc, .slice ra T2.length rc, .bool false] 25)
        have b6 : Below wo.heap.size wo _ := below_alloc' (o := .cells #[.slice qa d.pages.length qc, .slice ra T2.length rc, .bool false] 25) b5
        have o6 := o5.keep (below_new w5 (.cells #[.slice qa d.pages.length qc, .slice ra T2.length rc, .bool false] 25))
        have s5 := b5.size
        obtain ⟨w6, hw6⟩ : ∃ x : World, x = w5.alloc (.cells #[.slice qa d.pages.length qc, .slice ra T2.length rc, .bool false] 25) := ⟨_, rfl⟩
        rw [← hw6] at gN b6 o6 ⊢
        clear hw6
        obtain ⟨x0, x1, x2, -, -, -⟩ := Box3.of gN
        have hg6 := block_keep hgr b6
        have s6 := b6.size
        have hne : w5.heap.size ≠ w.heap.size + 1 + 1 := by omega
        have hne' : w.heap.size + 1 + 1 ≠ w5.heap.size := by omega
        obtain ⟨v0, v1, v2, vf0, vf1, vf2⟩ := Box3.of hg6
        go_wp2
        go_roundw
        case rel =>
          refine ⟨j + 1, qa, qc, ra, rc, by omega, by go_num, ?_, Lib.hid ?_, set3_below (β := w.heap.size + 1 + 1) _ _ _ (hbr.trans (b6.mono (by omega))) (Nat.le_refl _), by simp [World.setCell]; omega⟩
          · rw [HT2.out]; exact Box3.set hg6
          · rw [HT2.out]; exact OffDisk.set3 (β := w.heap.size + 1 + 1) o6 (.inr rfl) _ _ _
        case measure => simp [intOf]; omega
      · go_simp
        refine hK.out _ _ ?_ (fun hHeld => ?_)
        · exact HALL _ (below_alloc' (below_drew' (Below.refl _ _)))
        clear hK K
        try simp only [puts, gets]
        refine any_next (i := 13) (by kernel_rfl) rfl rfl (fun K hK => ?_)
        go_simp
        go_at_call 19
        refine writeoff_ts (OffDisk.widen (B' := fun i => (i = w.heap.size + 1 ∨ i = w.heap.size + 1 + 1) ∨ i = wo.heap.size) hO (below_alloc' (below_drew' (Below.refl _ _))) (fun i hi hB' => hB'.resolve_right (by omega))) (fun β hβ => by simp; rcases hβ with hβ | hβ; (have := hBlt β hβ; omega); omega) (hB.keep (below_alloc' (below_drew' (Below.refl _ _)))) hTb HW ?_
        intro qa qc ra rc w5 o5 b5
        have gB : w5.heap[wo.heap.size]? = some (.cells #[.slice none 0 0, .slice none 0 0, .bool false] 25 (0, 0)) := block_keep (heap_alloc_new wo.drew (.cells #[.slice none 0 0, .slice none 0 0, .bool false] 25)) b5
        have b5 : Below wo.heap.size wo w5 := below_undrew (below_trans (below_new wo.drew (.cells #[.slice none 0 0, .slice none 0 0, .bool false] 25)) b5)
        refine hK.out _ _ ?_ (fun hHeld => ?_)
        · exact HALL _ b5
        clear hK K
        refine any_take (by kernel_rfl) (i := 14) (oi := _) (v := ?_) rfl rfl (by kernel_rfl) (by kernel_rfl) (by kernel_rfl) (fun _ _ _ h => h) (Or.inl ⟨by rfl, ?_⟩) hHeld ?_
        rotate_left
        · intro w' hSw; try dsimp only at hSw
          go_simp
          try with_reducible rfl
        try simp only [puts, gets]
        refine any_take (by kernel_rfl) (i := 15) (oi := _) (v := ?_) rfl rfl (by kernel_rfl) (by kernel_rfl) (by kernel_rfl) (fun _ _ _ h => h) (Or.inl ⟨by rfl, ?_⟩) hHeld ?_
        rotate_left
        · intro w' hSw; try dsimp only at hSw
          go_simp
          try with_reducible rfl
        try simp only [puts, gets]
        refine any_take (by kernel_rfl) (i := 16) (oi := _) (v := ?_) rfl rfl (by kernel_rfl) (by kernel_rfl) (by kernel_rfl) (fun _ _ _ h => h) (Or.inl ⟨by rfl, ?_⟩) hHeld ?_
        rotate_left
        · intro w' hSw; try dsimp only at hSw
          go_simp
          try with_reducible rfl
        try simp only [puts, gets]
        refine any_next (i := 18) (by kernel_rfl) rfl rfl (fun K hK => ?_)
        obtain ⟨q0, q1, q2, qf0, qf1, qf2⟩ := Box3.of gB
        go_simp
        refine hK.out _ _ ?_ (fun hHeld => ?_)
        · exact HALL _ (set3_below (β := wo.heap.size) _ _ _ b5 (Nat.le_refl _))
        clear hK K
        try simp only [puts, gets]
        refine any_take (by kernel_rfl) (i := 19) (oi := _) (v := ?_) rfl rfl (by kernel_rfl) (by kernel_rfl) (by kernel_rfl) (fun _ _ _ h => h) (Or.inl ⟨by rfl, ?_⟩) hHeld ?_
        rotate_left
        · intro w' hSw; try dsimp only at hSw
          go_simp
          try with_reducible rfl
        try simp only [puts, gets]
        refine any_done (by kernel_rfl) ?_ _
        refine NoPanic.normal ?_
        have gN := Box3.set (x := .slice qa d.pages.length qc) (y := .slice ra T2.length rc) (z := .bool false) gB
        have b6 : Below wo.heap.size wo _ := set3_below (β := wo.heap.size) (.slice qa d.pages.length qc) (.slice ra T2.length rc) (.bool false) b5 (Nat.le_refl _)
        have o6 : OffDisk (fun i => i = w.heap.size + 1 ∨ i = w.heap.size + 1 + 1) (((w5.setCell ⟨wo.heap.size, 0, none⟩ (.slice qa d.pages.length qc)).setCell ⟨wo.heap.size, 1, none⟩ (.slice ra T2.length rc)).setCell ⟨wo.heap.size, 2, none⟩ (.bool false)) (.agg #[.slice qa d.pages.length qc, .slice ra T2.length rc, .bool false]) ⟨d.pages, T2, false⟩ := OffDisk.shrink (OffDisk.set3 (β := wo.heap.size) o5 (.inr rfl) _ _ _) fun i hi => .inl hi
        obtain ⟨w6, hw6⟩ : ∃ x : World, x = (((w5.setCell ⟨wo.heap.size, 0, none⟩ (.slice qa d.pages.length qc)).setCell ⟨wo.heap.size, 1, none⟩ (.slice ra T2.length rc)).setCell ⟨wo.heap.size, 2, none⟩ (.bool false)) := ⟨_, rfl⟩
        rw [← hw6] at gN b6 o6 ⊢
        clear hw6
        obtain ⟨x0, x1, x2, -, -, -⟩ := Box3.of gN
        have hg6 := block_keep hgr b6
        have s6 := b6.size
        have hne : wo.heap.size ≠ w.heap.size + 1 + 1 := by omega
        have hne' : w.heap.size + 1 + 1 ≠ wo.heap.size := by omega
        obtain ⟨v0, v1, v2, vf0, vf1, vf2⟩ := Box3.of hg6
        go_wp2
        go_roundw
        case rel =>
          refine ⟨j + 1, qa, qc, ra, rc, by omega, by go_num, ?_, Lib.hid ?_, set3_below (β := w.heap.size + 1 + 1) _ _ _ (hbr.trans (b6.mono (by omega))) (Nat.le_refl _), by simp [World.setCell]; omega⟩
          · rw [HT2.out]; exact Box3.set hg6
          · rw [HT2.out]; exact OffDisk.set3 (β := w.heap.size + 1 + 1) o6 (.inr rfl) _ _ _
        case measure => simp [intOf]; omega
    · have e : j = m := by omega
      subst e
      have HTl := Lib.hid hTl
      clear hTl
      generalize d.writes.take j = T at *
      obtain ⟨u0, u1, u2, uf0, uf1, uf2⟩ := Box3.of g1r
      go_wp2
      refine bodyPost_ret (v := .agg #[.slice p1 d.pages.length c1, .slice p2 T.length c2, .bool false]) (by simp [results, Try.results36, go_sem, u0, u1, u2]) rfl ?_
      exact ⟨_, rfl, (OffDisk.set3 (β := w.heap.size + 1) hO (.inl rfl) _ _ _).is, set3_below (β := w.heap.size + 1) _ _ _ b0r (by omega)⟩
end Go.Proofs.Ytcembocnkndlhaa

