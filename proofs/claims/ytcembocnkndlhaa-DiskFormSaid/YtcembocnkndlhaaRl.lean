/- The reference's walk: Restart. -/
import Derived.Test.YtcembocnkndlhaaTwo
import Derived.Test.YtcembocnkndlhaaRe
namespace Go.Proofs.Ytcembocnkndlhaa
open Go.RowKit
set_option maxHeartbeats 4000000 in
set_option maxRecDepth 100000 in
theorem rRestart_any (v : Value) (d : Dk) (w : World) (h : IsDisk w v d) (hl : d.writes.length ≤ 100000000) : Calls Try.prog 30 #[v] w (DiskRet (restartD d) w) := by
  have h0 := h
  obtain ⟨pa, pc, wa, wc, rfl, hp, hw, m1, m2, m3⟩ := h.shape
  obtain ⟨C, hC⟩ : ∃ C, C = Obj.cells #[.slice pa d.pages.length pc, .slice wa d.writes.length wc, .bool d.down] 25 := ⟨_, rfl⟩
  obtain ⟨Z, hZ⟩ : ∃ Z, Z = Obj.cells #[.slice none 0 0, .slice none 0 0, .bool false] 25 := ⟨_, rfl⟩
  obtain ⟨wb, hwb⟩ : ∃ x : World, x = (w.alloc C).alloc Z := ⟨_, rfl⟩
  have b1 := below_new w C
  have b2 : Below (w.alloc C).heap.size (w.alloc C) wb := by subst hwb; exact below_new _ _
  have b0 := below_trans b1 b2
  have g0 : wb.heap[w.heap.size]? = some (.cells #[.slice pa d.pages.length pc, .slice wa d.writes.length wc, .bool d.down] 25 (0, 0)) := by
    subst hC; exact box_at b2
  have g1 : wb.heap[w.heap.size + 1]? = some (.cells #[.slice none 0 0, .slice none 0 0, .bool false] 25 (0, 0)) := by
    subst hwb hZ
    have := heap_alloc_new (w.alloc C) (.cells #[.slice none 0 0, .slice none 0 0, .bool false] 25)
    simpa using this
  have hsb : wb.heap.size = w.heap.size + 1 + 1 := by subst hwb; simp
  cases hf : formed d
  · have H := Lib.hid (show restartD d = noDisk by unfold restartD; rw [hf]; rfl)
    have HF := Lib.hid hf
    clear hf
    go_enter Try.func30, Try.ntmps30
    go_wp2_with fail
    rw [← hC, ← hZ, ← hwb]
    refine (rformed_eq (h0.keep b0) _ HF.out).mono ?_
    rintro e w3 ⟨rfl, b3⟩
    obtain ⟨u0, u1, u2, uf0, uf1, uf2⟩ := Box3.of (block_keep g1 b3)
    go_wp2
    refine bodyPost_ret (v := zeroV) (by simp [results, Try.results30, go_sem, zeroV, u0, u1, u2]) rfl ?_
    refine ⟨zeroV, rfl, by rw [H.out]; exact IsDisk.zero _, ?_⟩
    exact (((below_trans b0 b3).setCell (p := ⟨w.heap.size + 1, 0, none⟩) (by simp) _).setCell (p := ⟨w.heap.size + 1, 1, none⟩) (by simp) _).setCell (p := ⟨w.heap.size + 1, 2, none⟩) (by simp) _
  · have H := Lib.hid (show restartD d = ⟨d.pages, d.writes, false⟩ by unfold restartD; rw [hf]; rfl)
    have HFm := Lib.hid hf
    have HP := Lib.hid (((formed_iff d).1 hf).2.1)
    have hpl : d.pages.length ≤ 400 := ((formed_iff d).1 hf).1
    clear hf
    go_enter Try.func30, Try.ntmps30
    go_wp2_with fail
    rw [← hC, ← hZ, ← hwb]
    clear hC hZ hwb b2
    refine (rformed_eq (h0.keep b0) _ HFm.out).mono ?_
    rintro e w3 ⟨rfl, b3⟩
    have b03 := below_trans b0 b3
    have hs3 := b3.size
    have g03 := block_keep g0 b3
    have g13 := block_keep g1 b3
    have hp3 := hp.keep b03
    have hw3 := hw.keep b03
    have HALL : ∀ W, Below w3.heap.size w3 W → W.cell? ⟨w.heap.size, 0, none⟩ = some (.slice pa d.pages.length pc) ∧ W.cell? ⟨w.heap.size, 1, none⟩ = some (.slice wa d.writes.length wc) := fun W hW => ⟨(Box3.of (block_keep g03 hW)).c0, (Box3.of (block_keep g03 hW)).c1⟩
    have HPL : Hid (∀ p ∈ d.pages, p.length ≤ 1000000) := Lib.hid fun p hp => by have := HP.out p hp; omega
    go_wp2
    refine wp_region_noPanic ?_
    refine wp_region_late (fun w' => w'.cell? ⟨w.heap.size, 0, none⟩ = some (.slice pa d.pages.length pc) ∧ w'.cell? ⟨w.heap.size, 1, none⟩ = some (.slice wa d.writes.length wc)) 8 (by kernel_rfl) (HALL _ (below_drew' (Below.refl _ _))) (fun hHeld => ?_)
    refine any_take (by kernel_rfl) (i := 0) (oi := _) (v := ?_) rfl rfl (by kernel_rfl) (by kernel_rfl) (by kernel_rfl) (fun _ _ _ h => h) (Or.inl ⟨by rfl, ?_⟩) hHeld ?_
    rotate_left
    · intro w' hSw; try dsimp only at hSw
      go_simp
      try with_reducible rfl
    try simp only [puts]
    refine any_take (by kernel_rfl) (i := 1) (oi := _) (v := ?_) rfl rfl (by kernel_rfl) (by kernel_rfl) (by kernel_rfl) (fun _ _ _ h => h) (Or.inl ⟨by rfl, ?_⟩) hHeld ?_
    rotate_left
    · intro w' hSw; try dsimp only at hSw
      go_simp
      try with_reducible rfl
    try simp only [puts]
    refine any_take (by kernel_rfl) (i := 4) (oi := _) (v := ?_) rfl rfl (by kernel_rfl) (by kernel_rfl) (by kernel_rfl) (fun _ _ _ h => h) (Or.inl ⟨by rfl, ?_⟩) hHeld ?_
    rotate_left
    · intro w' hSw; try dsimp only at hSw
      go_simp
      try with_reducible rfl
    try simp only [puts]
    refine any_take (by kernel_rfl) (i := 5) (oi := _) (v := ?_) rfl rfl (by kernel_rfl) (by kernel_rfl) (by kernel_rfl) (fun _ _ _ h => h) (Or.inl ⟨by rfl, ?_⟩) hHeld ?_
    rotate_left
    · intro w' hSw; try dsimp only at hSw
      go_simp
      try with_reducible rfl
    try simp only [puts]
    refine any_two (i := 2) (j := 3) (by kernel_rfl) rfl rfl rfl rfl (fun K hK => ?_) (fun K hK => ?_)
    · go_simp
      go_at_call 60
      refine rpages_ts (hp3.keep (below_drew' (Below.refl _ _))) (by omega) HPL ?_
      intro pv w5 hO5 b5
      have hO5 : OwnR w5 w3.heap.size pv d.pages := hO5
      have b5 : Below w3.heap.size w3 w5 := below_undrew b5
      obtain ⟨va, vc, rfl, hvc⟩ := hO5.len
      refine hK.out _ _ ?_ (fun hHeld => ?_)
      · exact HALL _ b5
      clear hK K
      try simp only [puts]
      refine any_next (i := 3) (by kernel_rfl) rfl rfl (fun K hK => ?_)
      go_simp
      refine hK.out _ _ ?_ (fun hHeld => ?_)
      · exact HALL _ (below_alloc' b5)
      clear hK K
      try simp only [puts]
      refine any_next (i := 6) (by kernel_rfl) rfl rfl (fun K hK => ?_)
      refine step_appW (w0 := w) (base := w5.heap.size) rfl (.tmp 12) (.tmp 14) (by rfl) (by rfl) (by rfl) hw (below_trans b03 (below_trans b5 (below_new _ _))) (lit49 _) (by simp) (by omega) ?_
      intro gw cw w6 xs hW6 hkW b6 _
      have b6 := (below_new w5 (.cells #[] 49)).trans b6
      have b36 := below_trans b5 b6
      have hO6 := hO5.keep b6
      obtain ⟨u0, u1, u2, uf0, uf1, uf2⟩ := Box3.of (block_keep g13 b36)
      refine hK.out _ _ ?_ (fun hHeld => ?_)
      · exact HALL _ b36
      clear hK K
      try simp only [puts]
      refine any_take (by kernel_rfl) (i := 7) (oi := _) (v := ?_) rfl rfl (by kernel_rfl) (by kernel_rfl) (by kernel_rfl) (fun _ _ _ h => h) (Or.inl ⟨by rfl, ?_⟩) hHeld ?_
      rotate_left
      · intro w' hSw; try dsimp only at hSw
        go_simp
        try with_reducible rfl
      try simp only [puts]
      refine any_late (i := 8) (by kernel_rfl) rfl rfl (fun K hK => ?_)
      go_simp
      refine hK.out _ _ ?_
      clear hK K
      try simp only [puts]
      refine any_done (by kernel_rfl) ?_ _
      refine NoPanic.normal ?_
      go_wp2
      refine bodyPost_ret (v := .agg #[.slice va d.pages.length vc, .slice gw d.writes.length cw, .bool false]) (by simp [results, Try.results30, go_sem, u0, u1, u2]) rfl ?_
      have bF := (((below_trans b03 b36).setCell (p := ⟨w.heap.size + 1, 0, none⟩) (by simp) (.slice va d.pages.length vc)).setCell (p := ⟨w.heap.size + 1, 1, none⟩) (by simp) (.slice gw d.writes.length cw)).setCell (p := ⟨w.heap.size + 1, 2, none⟩) (by simp) (.bool false)
      have rF := ((hO6.store (p := ⟨w.heap.size + 1, 0, none⟩) (by simp; omega) (.slice va d.pages.length vc)).store (p := ⟨w.heap.size + 1, 1, none⟩) (by simp; omega) (.slice gw d.writes.length cw)).store (p := ⟨w.heap.size + 1, 2, none⟩) (by simp; omega) (.bool false)
      refine ⟨_, rfl, ?_, bF⟩
      rw [H.out]
      have hs5 := b5.size
      refine ⟨_, _, rfl, rF.is (by omega) fun p hp => by have := HP.out p hp; omega, ?_⟩
      exact hkW _ (own_store (own_store (own_store hW6 (p := ⟨w.heap.size + 1, 0, none⟩) (by simp; omega) _) (p := ⟨w.heap.size + 1, 1, none⟩) (by simp; omega) _) (p := ⟨w.heap.size + 1, 2, none⟩) (by simp; omega) _) bF
    · go_simp
      go_simp
      refine hK.out _ _ ?_ (fun hHeld => ?_)
      · exact HALL _ (below_alloc' (below_drew' (Below.refl _ _)))
      clear hK K
      try simp only [puts]
      refine any_next (i := 2) (by kernel_rfl) rfl rfl (fun K hK => ?_)
      go_simp
      go_at_call 60
      refine rpages_ts (hp3.keep (below_alloc' (below_drew' (Below.refl _ _)))) (by omega) HPL ?_
      intro pv w5 hO5 b5
      have hO5 : OwnR w5 (w3.drew.alloc (.cells #[] 49)).heap.size pv d.pages := hO5
      rw [show (w3.drew.alloc (.cells #[] 49)).heap.size = w3.heap.size + 1 from by simp] at hO5
      have hL5 := own_keep (lit49 w3.drew) b5
      have b5 : Below w3.heap.size w3 w5 := below_undrew (below_trans (below_new w3.drew (.cells #[] 49)) b5)
      obtain ⟨va, vc, rfl, hvc⟩ := hO5.len
      refine hK.out _ _ ?_ (fun hHeld => ?_)
      · exact HALL _ b5
      clear hK K
      try simp only [puts]
      refine any_next (i := 6) (by kernel_rfl) rfl rfl (fun K hK => ?_)
      refine step_appW (w0 := w) (base := w3.heap.size) rfl (.tmp 12) (.tmp 14) (by rfl) (by rfl) (by rfl) hw (below_trans b03 b5) hL5 b5.size (by omega) ?_
      intro gw cw w6 xs hW6 hkW b6 hgr
      have b36 := b5.trans b6
      have hO6 : OwnR w6 (w3.heap.size + 1) _ d.pages := hO5.kept hgr (fun g e => by have e' : some w3.heap.size = some g := e; simp at e'; omega)
      obtain ⟨u0, u1, u2, uf0, uf1, uf2⟩ := Box3.of (block_keep g13 b36)
      refine hK.out _ _ ?_ (fun hHeld => ?_)
      · exact HALL _ b36
      clear hK K
      try simp only [puts]
      refine any_take (by kernel_rfl) (i := 7) (oi := _) (v := ?_) rfl rfl (by kernel_rfl) (by kernel_rfl) (by kernel_rfl) (fun _ _ _ h => h) (Or.inl ⟨by rfl, ?_⟩) hHeld ?_
      rotate_left
      · intro w' hSw; try dsimp only at hSw
        go_simp
        try with_reducible rfl
      try simp only [puts]
      refine any_late (i := 8) (by kernel_rfl) rfl rfl (fun K hK => ?_)
      go_simp
      refine hK.out _ _ ?_
      clear hK K
      try simp only [puts]
      refine any_done (by kernel_rfl) ?_ _
      refine NoPanic.normal ?_
      go_wp2
      refine bodyPost_ret (v := .agg #[.slice va d.pages.length vc, .slice gw d.writes.length cw, .bool false]) (by simp [results, Try.results30, go_sem, u0, u1, u2]) rfl ?_
      have bF := (((below_trans b03 b36).setCell (p := ⟨w.heap.size + 1, 0, none⟩) (by simp) (.slice va d.pages.length vc)).setCell (p := ⟨w.heap.size + 1, 1, none⟩) (by simp) (.slice gw d.writes.length cw)).setCell (p := ⟨w.heap.size + 1, 2, none⟩) (by simp) (.bool false)
      have rF := ((hO6.store (p := ⟨w.heap.size + 1, 0, none⟩) (by simp; omega) (.slice va d.pages.length vc)).store (p := ⟨w.heap.size + 1, 1, none⟩) (by simp; omega) (.slice gw d.writes.length cw)).store (p := ⟨w.heap.size + 1, 2, none⟩) (by simp; omega) (.bool false)
      refine ⟨_, rfl, ?_, bF⟩
      rw [H.out]
      have hs5 := b5.size
      refine ⟨_, _, rfl, rF.is (by omega) fun p hp => by have := HP.out p hp; omega, ?_⟩
      exact hkW _ (own_store (own_store (own_store hW6 (p := ⟨w.heap.size + 1, 0, none⟩) (by simp; omega) _) (p := ⟨w.heap.size + 1, 1, none⟩) (by simp; omega) _) (p := ⟨w.heap.size + 1, 2, none⟩) (by simp; omega) _) bF
end Go.Proofs.Ytcembocnkndlhaa

