/- The reference's walk: Copy. -/
import Derived.Test.YtcembocnkndlhaaTwo
import Derived.Test.YtcembocnkndlhaaGet
import Derived.Test.YtcembocnkndlhaaVb
import Derived.Test.YtcembocnkndlhaaL7
namespace Go.Proofs.Ytcembocnkndlhaa
open Go.RowKit
theorem ownR_agree {w W : World} {base : Nat} {pv : Value} {L : List (List UInt8)} (h : OwnR w base pv L) (hag : ∀ i, base ≤ i → i < w.heap.size → W.heap[i]? = w.heap[i]?) (hm : L.length ≤ 9223372036854775807) (hl : ∀ l ∈ L, l.length ≤ 9223372036854775807) : IsPages W pv L := by
  obtain ⟨us, h1, h2, h3, h4⟩ := h
  exact OwnR.is (base := base) ⟨us, own_agree h1 hag, h2, fun i u l hu hll => ⟨⟨own_agree (h3 i u l hu hll).1.1 hag, (h3 i u l hu hll).1.2⟩, (h3 i u l hu hll).2⟩, h4⟩ hm hl
/-- What Copy's first statement leaves. -/
def CopyStart (wb : World) (d : Dk) (v3 : Value) (wx : World) : Prop :=
  ∃ (β : Nat) (va : Option Addr) (vc : Nat), v3 = .pointer (some ⟨β, 0, none⟩) ∧ wb.heap.size ≤ β ∧ wx.heap[β]? = some (.cells #[.slice va d.pages.length vc, .slice none 0 0, .bool d.down] 25 (0, 0)) ∧ (∀ W, Agree (fun i => i = β ∨ i < wb.heap.size) wx W → IsPages W (.slice va d.pages.length vc) d.pages) ∧ Below wb.heap.size wb wx
theorem step_bytes0 {w : World} {ops : Array Oper} {o : Oper} {a : Act} {K : Act → World → Prop} {Q : Exit → Act → World → Prop} {E : Prop} (hgd : o.guard = none) (s y : Operand) (ho : o.op = .call { callee := .builtin .append, args := #[s, y], argTypes := #[26, 26] })
    {g0 : Nat} {x : Value} {l : List UInt8} (hs : a.eval s = .slice (some ⟨g0, 0, none⟩) 0 0) (hblk : w.heap[g0]? = some (.cells #[] 5 (0, 0))) (hy : a.eval y = x) (hx : IsBytes w x l) (hl : l.length ≤ 100000000)
    (h : ∀ g cap w', OwnB w' g0 (.slice (some ⟨g, 0, none⟩) l.length cap) l → Below g0 w w' → K (a.put o.dst (.slice (some ⟨g, 0, none⟩) l.length cap)) w') : if Region.wanted o (yielded ops a.tmps) = true then Oper.wp Try.prog o a w K Q else E := by
  have hw : Region.wanted o (yielded ops a.tmps) = true := by simp [Region.wanted, hgd]
  rw [if_pos hw]
  obtain ⟨g, cap, w', hr, h2, h3⟩ := run_bytes0 (ty := o.type) hblk hx hl
  unfold Oper.wp execOp
  simp only [ho, resolve, invoke, builtin, Sem.run_bind, Sem.run_pure, Result.andThen_ok, List.map_toArray, List.map_cons, List.map_nil, hs, hy, hr]
  exact h g cap w' h2 h3
set_option maxHeartbeats 4000000 in
set_option maxRecDepth 100000 in
theorem Copy_any (v : Value) (d : Dk) (w : World) (h : IsDisk w v d) (hl : d.writes.length ≤ 100000000) (hpl : d.pages.length ≤ 1000) (HPL : Hid (∀ p ∈ d.pages, p.length ≤ 1000000)) (HWL : Hid (∀ x ∈ d.writes, x.data.length ≤ 1000000)) : Calls Try.prog 37 #[v] w (DiskRet d w) := by
  have h0 := h
  obtain ⟨pa, pc, wa, wcp, rfl, hp, hw, m1, m2, m3⟩ := h.shape
  obtain ⟨C, hC⟩ : ∃ C, C = Obj.cells #[.slice pa d.pages.length pc, .slice wa d.writes.length wcp, .bool d.down] 25 := ⟨_, rfl⟩
  obtain ⟨Z, hZ⟩ : ∃ Z, Z = Obj.cells #[.slice none 0 0, .slice none 0 0, .bool false] 25 := ⟨_, rfl⟩
  obtain ⟨wb, hwb⟩ : ∃ x : World, x = (w.alloc C).alloc Z := ⟨_, rfl⟩
  have b1 := below_new w C
  have b2 : Below (w.alloc C).heap.size (w.alloc C) wb := by subst hwb; exact below_new _ _
  have b0 := below_trans b1 b2
  have g0 : wb.heap[w.heap.size]? = some (.cells #[.slice pa d.pages.length pc, .slice wa d.writes.length wcp, .bool d.down] 25 (0, 0)) := by
    subst hC; exact box_at b2
  have g1 : wb.heap[w.heap.size + 1]? = some (.cells #[.slice none 0 0, .slice none 0 0, .bool false] 25 (0, 0)) := by
    subst hwb hZ
    have := heap_alloc_new (w.alloc C) (.cells #[.slice none 0 0, .slice none 0 0, .bool false] 25)
    simpa using this
  have hsb1 : wb.heap.size ≤ w.heap.size + 2 := by subst hwb; simp
  have hsb2 : w.heap.size + 2 ≤ wb.heap.size := by subst hwb; simp
  go_enter Try.func37, Try.ntmps37
  go_upto_region 1 with fail
  rw [← hC, ← hZ, ← hwb]
  clear hC hZ hwb b2
  have hpb := hp.keep b0
  have HALL0 : ∀ W, Below wb.heap.size wb W → W.cell? ⟨w.heap.size, 0, none⟩ = some (.slice pa d.pages.length pc) ∧ W.cell? ⟨w.heap.size, 2, none⟩ = some (.bool d.down) := fun W hW => ⟨(Box3.of (block_keep g0 hW)).c0, (Box3.of (block_keep g0 hW)).c2⟩
  go_cut [3] from 5 to 10 (fun v3 wx => Hid (CopyStart wb d v3 wx))
  case first =>
    refine wp_region_noPanic ?_
    refine wp_region_late (fun w' => w'.cell? ⟨w.heap.size, 0, none⟩ = some (.slice pa d.pages.length pc) ∧ w'.cell? ⟨w.heap.size, 2, none⟩ = some (.bool d.down)) 7 (by kernel_rfl) (HALL0 _ (below_drew' (Below.refl _ _))) (fun hHeld => ?_)
    refine any_take (by kernel_rfl) (i := 0) (oi := _) (v := ?_) rfl rfl (by kernel_rfl) (by kernel_rfl) (by kernel_rfl) (fun _ _ _ h => h) (Or.inl ⟨by rfl, ?_⟩) hHeld ?_
    rotate_left
    · intro w' hSw; try dsimp only at hSw
      go_simp
      try with_reducible rfl
    try simp only [puts, gets]
    refine any_take (by kernel_rfl) (i := 1) (oi := _) (v := ?_) rfl rfl (by kernel_rfl) (by kernel_rfl) (by kernel_rfl) (fun _ _ _ h => h) (Or.inl ⟨by rfl, ?_⟩) hHeld ?_
    rotate_left
    · intro w' hSw; try dsimp only at hSw
      go_simp
      try with_reducible rfl
    try simp only [puts, gets]
    refine any_take (by kernel_rfl) (i := 3) (oi := _) (v := ?_) rfl rfl (by kernel_rfl) (by kernel_rfl) (by kernel_rfl) (fun _ _ _ h => h) (Or.inl ⟨by rfl, ?_⟩) hHeld ?_
    rotate_left
    · intro w' hSw; try dsimp only at hSw
      go_simp
      try with_reducible rfl
    try simp only [puts, gets]
    refine any_take (by kernel_rfl) (i := 4) (oi := _) (v := ?_) rfl rfl (by kernel_rfl) (by kernel_rfl) (by kernel_rfl) (fun _ _ _ h => h) (Or.inl ⟨by rfl, ?_⟩) hHeld ?_
    rotate_left
    · intro w' hSw; try dsimp only at hSw
      go_simp
      try with_reducible rfl
    try simp only [puts, gets]
    refine any_two (i := 2) (j := 6) (by kernel_rfl) rfl rfl rfl rfl (fun K hK => ?_) (fun K hK => ?_)
    · go_simp
      go_at_call 60
      refine rpages_ts (hpb.keep (below_drew' (Below.refl _ _))) (by omega) HPL ?_
      intro pv w5 hO5 b5
      have hO5 : OwnR w5 wb.heap.size pv d.pages := hO5
      have b5 : Below wb.heap.size wb w5 := below_undrew b5
      obtain ⟨va, vc, rfl, hvc⟩ := hO5.len
      refine hK.out _ _ ?_ (fun hHeld => ?_)
      · exact HALL0 _ b5
      clear hK K
      try simp only [puts, gets]
      refine any_take (by kernel_rfl) (i := 5) (oi := _) (v := ?_) rfl rfl (by kernel_rfl) (by kernel_rfl) (by kernel_rfl) (fun _ _ _ h => h) (Or.inl ⟨by rfl, ?_⟩) hHeld ?_
      rotate_left
      · intro w' hSw; try dsimp only at hSw
        go_simp
        try with_reducible rfl
      try simp only [puts, gets]
      refine any_next (i := 6) (by kernel_rfl) rfl rfl (fun K hK => ?_)
      go_simp
      refine hK.out _ _ ?_ (fun hHeld => ?_)
      · exact HALL0 _ (below_alloc' b5)
      clear hK K
      try simp only [puts, gets]
      refine any_late (i := 7) (by kernel_rfl) rfl rfl (fun K hK => ?_)
      go_simp
      refine hK.out _ _ ?_
      clear hK K
      try simp only [puts, gets]
      refine any_done (by kernel_rfl) ?_ _
      refine NoPanic.normal ?_
      go_wp2
      go_meet
      case rel =>
        refine Lib.hid ⟨_, va, vc, rfl, b5.size, heap_alloc_new w5 _, fun W hW => ownR_agree hO5 (fun i h1 h2 => ?_) (by omega) (fun l hl => by have := HPL.out l hl; omega), below_alloc' b5⟩
        exact (hW i (by simp; omega) (by omega)).trans (Below.heap_alloc _ _ _ h2)
    · go_simp
      refine hK.out _ _ ?_ (fun hHeld => ?_)
      · exact HALL0 _ (below_alloc' (below_drew' (Below.refl _ _)))
      clear hK K
      try simp only [puts, gets]
      refine any_next (i := 2) (by kernel_rfl) rfl rfl (fun K hK => ?_)
      go_simp
      go_at_call 60
      refine rpages_ts (hpb.keep (below_alloc' (below_drew' (Below.refl _ _)))) (by omega) HPL ?_
      intro pv w5 hO5 b5
      have hO5 : OwnR w5 (wb.drew.alloc (.cells #[.slice none 0 0, .slice none 0 0, .bool false] 25)).heap.size pv d.pages := hO5
      rw [show (wb.drew.alloc (.cells #[.slice none 0 0, .slice none 0 0, .bool false] 25)).heap.size = wb.heap.size + 1 from by simp] at hO5
      have gB : w5.heap[wb.heap.size]? = some (.cells #[.slice none 0 0, .slice none 0 0, .bool false] 25 (0, 0)) := block_keep (heap_alloc_new wb.drew (.cells #[.slice none 0 0, .slice none 0 0, .bool false] 25)) b5
      have b5 : Below wb.heap.size wb w5 := below_undrew (below_trans (below_new wb.drew (.cells #[.slice none 0 0, .slice none 0 0, .bool false] 25)) b5)
      obtain ⟨va, vc, rfl, hvc⟩ := hO5.len
      obtain ⟨u0, u1, u2, uf0, uf1, uf2⟩ := Box3.of gB
      refine hK.out _ _ ?_ (fun hHeld => ?_)
      · exact HALL0 _ b5
      clear hK K
      try simp only [puts, gets]
      refine any_take (by kernel_rfl) (i := 5) (oi := _) (v := ?_) rfl rfl (by kernel_rfl) (by kernel_rfl) (by kernel_rfl) (fun _ _ _ h => h) (Or.inl ⟨by rfl, ?_⟩) hHeld ?_
      rotate_left
      · intro w' hSw; try dsimp only at hSw
        go_simp
        try with_reducible rfl
      try simp only [puts, gets]
      refine any_late (i := 7) (by kernel_rfl) rfl rfl (fun K hK => ?_)
      go_simp
      refine hK.out _ _ ?_
      clear hK K
      try simp only [puts, gets]
      refine any_done (by kernel_rfl) ?_ _
      refine NoPanic.normal ?_
      go_wp2
      go_meet
      case rel =>
        refine Lib.hid ⟨_, va, vc, rfl, Nat.le_refl _, Box3.set gB, fun W hW => ownR_agree hO5 (fun i h1 h2 => ?_) (by omega) (fun l hl => by have := HPL.out l hl; omega), set3_below _ _ _ b5 (Nat.le_refl _)⟩
        exact (hW i (by simpa [World.setCell] using h2) (by omega)).trans (set3_ne _ _ _ (by omega))
  case rest =>
    obtain ⟨β, va, vc, rfl, hβ, gβ, hPG, bx⟩ := hcut.out
    have bw := below_trans b0 bx
    have g0c := block_keep g0 bx
    have g1c := block_keep g1 bx
    have hlβ := block_lt gβ
    have hsx := bx.size
    obtain ⟨y0, y1, y2, -, -, -⟩ := Box3.of g0c
    clear hp hpb h0 h
    go_wp2
    go_loopw [4] (fun i wr => ∃ (j : Nat) (wv : Value), j ≤ d.writes.length ∧ i = .int .i64 j ∧ wr.heap[β]? = some (.cells #[.slice va d.pages.length vc, wv, .bool d.down] 25 (0, 0)) ∧ OwnW wr wc.heap.size wv (d.writes.take j) ∧ Hid (Agree (fun i => i = β) wc wr) ∧ Below w.heap.size w wr ∧ wc.heap.size ≤ wr.heap.size) (fun i _ => d.writes.length - (intOf i).toNat)
    case atStart => exact ⟨0, _, Nat.zero_le _, rfl, gβ, OwnW.nil _ _, Lib.hid (Agree.refl _ _), bw, Nat.le_refl _⟩
    case round =>
      obtain ⟨j, wv, hj, rfl, hgr, hOr, hag, hbr, hsr⟩ := hrel
      obtain ⟨wo, rfl⟩ : ∃ wo : World, wo = wr := ⟨_, rfl⟩
      obtain ⟨xa, xc, rfl, hxc⟩ := hOr.len
      obtain ⟨z0, z1, z2, zf0, zf1, zf2⟩ := Box3.of hgr
      have g0r := (hag.out w.heap.size (by omega) (by omega)).trans g0c
      clear y0 y1 y2
      obtain ⟨y0, y1, y2, -, -, -⟩ := Box3.of g0r
      have hTl : (d.writes.take j).length = j := by rw [List.length_take]; omega
      have HTL := Lib.hid hTl
      by_cases hlt : j < d.writes.length
      · obtain ⟨b, off, da, dc, rfl, c0, c1, hB⟩ := hw.at_ (List.getElem?_eq_getElem hlt)
        have HM := Lib.hid (HWL.out d.writes[j] (List.getElem_mem hlt))
        have HT := Lib.hid (List.take_succ_eq_append_getElem hlt)
        have hTb : (d.writes.take j).length ≤ 1000000000 := by omega
        have HC0 : ∀ W, Below w.heap.size w W → W.cell? ⟨b, off + j * 2, none⟩ = some (.int .i64 d.writes[j].at_) := fun W hW => cell_keep hW c0
        have HC1 : ∀ W, Below w.heap.size w W → W.cell? ⟨b, off + j * 2 + 1, none⟩ = some (.slice da d.writes[j].data.length dc) := fun W hW => cell_keep hW c1
        have HB := fun W (hW : Below w.heap.size w W) => IsBytes.keep hB hW
        generalize d.writes[j] = x at *
        generalize d.writes.take j = T at *
        clear c0 c1 hTl
        have hI0 : (0 : Int) ≤ (j : Int) := by omega
        have hI1 : (j : Int) < (d.writes.length : Int) := by omega
        have hxl : x.data.length ≤ 100000000 := by have := HM.out; omega
        have HALL2 : ∀ W, Below wc.heap.size wo W → W.cell? ⟨β, 1, none⟩ = some (.slice xa T.length xc) ∧ W.cell? ⟨w.heap.size, 1, none⟩ = some (.slice (some ⟨b, off, none⟩) d.writes.length wcp) ∧ W.cell? ⟨b, off + j * 2, none⟩ = some (.int .i64 x.at_) ∧ W.cell? ⟨b, off + j * 2 + 1, none⟩ = some (.slice da x.data.length dc) := fun W hW =>
          ⟨(hW.cell (p := ⟨β, 1, none⟩) hlβ).trans z1, (hW.cell (p := ⟨w.heap.size, 1, none⟩) (by simp; omega)).trans y1, HC0 W (hbr.trans (hW.mono (by omega))), HC1 W (hbr.trans (hW.mono (by omega)))⟩
        have HALL : ∀ W, Below wo.heap.size wo W → W.cell? ⟨β, 1, none⟩ = some (.slice xa T.length xc) ∧ W.cell? ⟨w.heap.size, 1, none⟩ = some (.slice (some ⟨b, off, none⟩) d.writes.length wcp) ∧ W.cell? ⟨b, off + j * 2, none⟩ = some (.int .i64 x.at_) ∧ W.cell? ⟨b, off + j * 2 + 1, none⟩ = some (.slice da x.data.length dc) := fun W hW => HALL2 W (hW.mono hsr)
        have HF2 : ∀ W, Below wc.heap.size wo W → W.frozen? ⟨β, 1, none⟩ = false := fun W hW => (hW.frozen (p := ⟨β, 1, none⟩) hlβ).trans zf1
        clear HALL0
        go_wp2
        refine wp_region_noPanic ?_
        refine wp_region_late (fun w' => w'.cell? ⟨β, 1, none⟩ = some (.slice xa T.length xc) ∧ w'.cell? ⟨w.heap.size, 1, none⟩ = some (.slice (some ⟨b, off, none⟩) d.writes.length wcp) ∧ w'.cell? ⟨b, off + j * 2, none⟩ = some (.int .i64 x.at_) ∧ w'.cell? ⟨b, off + j * 2 + 1, none⟩ = some (.slice da x.data.length dc)) 20 (by kernel_rfl) (HALL _ (below_drew' (Below.refl _ _))) (fun hHeld => ?_)
        refine any_take (by kernel_rfl) (i := 0) (oi := _) (v := ?_) rfl rfl (by kernel_rfl) (by kernel_rfl) (by kernel_rfl) (fun _ _ _ h => h) (Or.inl ⟨by rfl, ?_⟩) hHeld ?_
        rotate_left
        · intro w' hSw; try dsimp only at hSw
          go_simp
          try with_reducible rfl
        try simp only [puts, gets]
        refine any_take (by kernel_rfl) (i := 1) (oi := _) (v := ?_) rfl rfl (by kernel_rfl) (by kernel_rfl) (by kernel_rfl) (fun _ _ _ h => h) (Or.inl ⟨by rfl, ?_⟩) hHeld ?_
        rotate_left
        · intro w' hSw; try dsimp only at hSw
          go_simp
          try with_reducible rfl
        try simp only [puts, gets]
        refine any_take (by kernel_rfl) (i := 2) (oi := _) (v := ?_) rfl rfl (by kernel_rfl) (by kernel_rfl) (by kernel_rfl) (fun _ _ _ h => h) (Or.inl ⟨by rfl, ?_⟩) hHeld ?_
        rotate_left
        · intro w' hSw; try dsimp only at hSw
          go_simp
          try with_reducible rfl
        try simp only [puts, gets]
        refine any_take (by kernel_rfl) (i := 3) (oi := _) (v := ?_) rfl rfl (by kernel_rfl) (by kernel_rfl) (by kernel_rfl) (fun _ _ _ h => h) (Or.inl ⟨by rfl, ?_⟩) hHeld ?_
        rotate_left
        · intro w' hSw; try dsimp only at hSw
          go_simp
          try with_reducible rfl
        try simp only [puts, gets]
        refine any_take (by kernel_rfl) (i := 4) (oi := _) (v := ?_) rfl rfl (by kernel_rfl) (by kernel_rfl) (by kernel_rfl) (fun _ _ _ h => h) (Or.inl ⟨by rfl, ?_⟩) hHeld ?_
        rotate_left
        · intro w' hSw; try dsimp only at hSw
          go_simp
          try with_reducible rfl
        try simp only [puts, gets]
        refine any_take (by kernel_rfl) (i := 5) (oi := _) (v := ?_) rfl rfl (by kernel_rfl) (by kernel_rfl) (by kernel_rfl) (fun _ _ _ h => h) (Or.inl ⟨by rfl, ?_⟩) hHeld ?_
        rotate_left
        · intro w' hSw; try dsimp only at hSw
          go_simp
          try with_reducible rfl
        try simp only [puts, gets]
        refine any_take (by kernel_rfl) (i := 6) (oi := _) (v := ?_) rfl rfl (by kernel_rfl) (by kernel_rfl) (by kernel_rfl) (fun _ _ _ h => h) (Or.inl ⟨by rfl, ?_⟩) hHeld ?_
        rotate_left
        · intro w' hSw; try dsimp only at hSw
          go_simp
          try with_reducible rfl
        try simp only [puts, gets]
        refine any_take (by kernel_rfl) (i := 7) (oi := _) (v := ?_) rfl rfl (by kernel_rfl) (by kernel_rfl) (by kernel_rfl) (fun _ _ _ h => h) (Or.inl ⟨by rfl, ?_⟩) hHeld ?_
        rotate_left
        · intro w' hSw; try dsimp only at hSw
          go_simp
          try with_reducible rfl
        try simp only [puts, gets]
        refine any_take (by kernel_rfl) (i := 9) (oi := _) (v := ?_) rfl rfl (by kernel_rfl) (by kernel_rfl) (by kernel_rfl) (fun _ _ _ h => h) (Or.inl ⟨by rfl, ?_⟩) hHeld ?_
        rotate_left
        · intro w' hSw; try dsimp only at hSw
          go_simp
          try with_reducible rfl
        try simp only [puts, gets]
        refine any_take (by kernel_rfl) (i := 10) (oi := _) (v := ?_) rfl rfl (by kernel_rfl) (by kernel_rfl) (by kernel_rfl) (fun _ _ _ h => h) (Or.inl ⟨by rfl, ?_⟩) hHeld ?_
        rotate_left
        · intro w' hSw; try dsimp only at hSw
          go_simp
          try with_reducible rfl
        try simp only [puts, gets]
        refine any_take (by kernel_rfl) (i := 11) (oi := _) (v := ?_) rfl rfl (by kernel_rfl) (by kernel_rfl) (by kernel_rfl) (fun _ _ _ h => h) (Or.inl ⟨by rfl, ?_⟩) hHeld ?_
        rotate_left
        · intro w' hSw; try dsimp only at hSw
          go_simp
          try with_reducible rfl
        try simp only [puts, gets]
        refine any_take (by kernel_rfl) (i := 12) (oi := _) (v := ?_) rfl rfl (by kernel_rfl) (by kernel_rfl) (by kernel_rfl) (fun _ _ _ h => h) (Or.inl ⟨by rfl, ?_⟩) hHeld ?_
        rotate_left
        · intro w' hSw; try dsimp only at hSw
          go_simp
          try with_reducible rfl
        try simp only [puts, gets]
        refine any_take (by kernel_rfl) (i := 13) (oi := _) (v := ?_) rfl rfl (by kernel_rfl) (by kernel_rfl) (by kernel_rfl) (fun _ _ _ h => h) (Or.inl ⟨by rfl, ?_⟩) hHeld ?_
        rotate_left
        · intro w' hSw; try dsimp only at hSw
          go_simp
          try with_reducible rfl
        try simp only [puts, gets]
        refine any_take (by kernel_rfl) (i := 14) (oi := _) (v := ?_) rfl rfl (by kernel_rfl) (by kernel_rfl) (by kernel_rfl) (fun _ _ _ h => h) (Or.inl ⟨by rfl, ?_⟩) hHeld ?_
        rotate_left
        · intro w' hSw; try dsimp only at hSw
          go_simp
          try with_reducible rfl
        try simp only [puts, gets]
        refine any_next (i := 8) (by kernel_rfl) rfl rfl (fun K hK => ?_)
        go_simp
        refine hK.out _ _ ?_ (fun hHeld => ?_)
        · exact HALL _ (below_alloc' (below_drew' (Below.refl _ _)))
        clear hK K
        try simp only [puts, gets]
        refine any_next (i := 15) (by kernel_rfl) rfl rfl (fun K hK => ?_)
        refine step_bytes0 rfl (.tmp 26) (.tmp 32) (by rfl) (g0 := wo.heap.size) (by rfl) (heap_alloc_new wo.drew _) (by rfl) (HB _ (below_trans hbr (below_alloc' (below_drew' (Below.refl _ _))))) hxl ?_
        intro g c wF hF bF
        have bF : Below wo.heap.size wo wF := below_undrew (((Below.refl wo.drew.heap.size wo.drew).alloc (Nat.le_refl _) _).trans bF)
        refine hK.out _ _ ?_ (fun hHeld => ?_)
        · exact HALL _ bF
        clear hK K
        try simp only [puts, gets]
        refine any_take (by kernel_rfl) (i := 16) (oi := _) (v := ?_) rfl rfl (by kernel_rfl) (by kernel_rfl) (by kernel_rfl) (fun _ _ _ h => h) (Or.inl ⟨by rfl, ?_⟩) hHeld ?_
        rotate_left
        · intro w' hSw; try dsimp only at hSw
          go_simp
          try with_reducible rfl
        try simp only [puts, gets]
        refine any_next (i := 17) (by kernel_rfl) rfl rfl (fun K hK => ?_)
        go_simp
        refine hK.out _ _ ?_ (fun hHeld => ?_)
        · exact HALL _ (below_alloc' bF)
        clear hK K
        try simp only [puts, gets]
        refine any_next (i := 18) (by kernel_rfl) rfl rfl (fun K hK => ?_)
        refine step_pushW (wr := wo) (x := x) (g1 := wF.heap.size) rfl (.tmp 19) (.tmp 35) (by rfl) (by rfl) (by rfl) hOr (below_alloc' bF) (OwnB.keep hF (below_new _ _)) hsr (heap_alloc_new wF _) hTb ?_
        intro g' cap' w6 hO6 b6
        have f6 := HF2 _ b6
        refine hK.out _ _ ?_ (fun hHeld => ?_)
        · exact HALL2 _ b6
        clear hK K
        try simp only [puts, gets]
        refine any_take (by kernel_rfl) (i := 19) (oi := _) (v := ?_) rfl rfl (by kernel_rfl) (by kernel_rfl) (by kernel_rfl) (fun _ _ _ h => h) (Or.inl ⟨by rfl, ?_⟩) hHeld ?_
        rotate_left
        · intro w' hSw; try dsimp only at hSw
          go_simp
          try with_reducible rfl
        try simp only [puts, gets]
        refine any_late (i := 20) (by kernel_rfl) rfl rfl (fun K hK => ?_)
        go_simp
        refine hK.out _ _ ?_
        clear hK K
        try simp only [puts, gets]
        refine any_done (by kernel_rfl) ?_ _
        refine NoPanic.normal ?_
        go_wp2
        go_roundw
        case rel =>
          have hg6 : w6.heap[β]? = some (.cells #[.slice va d.pages.length vc, .slice xa T.length xc, .bool d.down] 25 (0, 0)) := (b6.block _ hlβ).trans hgr
          refine ⟨j + 1, _, by omega, by go_num, box3_set1 hg6, ?_, Lib.hid ?_, (hbr.trans (b6.mono (by omega))).setCell (p := ⟨β, 1, none⟩) (by simp; omega) _, by have := b6.size; simp [World.setCell]; omega⟩
          · rw [HT.out]
            exact hO6.store (p := ⟨β, 1, none⟩) hlβ _
          · intro i hi hB
            exact (Below.heap_setCell _ _ _ _ hB).trans ((b6.block i hi).trans (hag.out i hi hB))
        case measure => simp [intOf]; omega
      · have e : j = d.writes.length := by omega
        subst e
        rw [List.take_length] at hOr
        clear hTl
        have g1r := (hag.out (w.heap.size + 1) (by omega) (by omega)).trans g1c
        obtain ⟨u0, u1, u2, uf0, uf1, uf2⟩ := Box3.of g1r
        go_wp2
        refine bodyPost_ret (v := .agg #[.slice va d.pages.length vc, .slice xa d.writes.length xc, .bool d.down]) (by simp [results, Try.results37, go_sem, u0, u1, u2]) rfl ?_
        have rF := ((hOr.store (p := ⟨w.heap.size + 1, 0, none⟩) (by simp; omega) (.slice va d.pages.length vc)).store (p := ⟨w.heap.size + 1, 1, none⟩) (by simp; omega) (.slice xa d.writes.length xc)).store (p := ⟨w.heap.size + 1, 2, none⟩) (by simp; omega) (.bool d.down)
        refine ⟨_, rfl, ⟨_, _, rfl, hPG _ fun i hi hB => ?_, rF.is (by omega) fun x hx => by have := HWL.out x hx; omega⟩, set3_below (β := w.heap.size + 1) _ _ _ hbr (by omega)⟩
        have h1 : ¬ i = β := fun e => hB (.inl e)
        have h2 : ¬ i < wb.heap.size := fun e => hB (.inr e)
        exact (set3_ne _ _ _ (by omega)).trans (hag.out i hi h1)

end Go.Proofs.Ytcembocnkndlhaa

