/- The disks that Sync hands back, the given program's and the reference's. -/
import Derived.Test.YtcembocnkndlhaaVa
import Derived.Test.YtcembocnkndlhaaRi
namespace Go.Proofs.Ytcembocnkndlhaa
open Go.RowKit
theorem nil_rows (W : World) : IsRows 2 encW W (.slice none 0 0) [] := ⟨none, 0, rfl, .inl rfl, by simp, by simp, by simp⟩
theorem off_pages {B : Nat → Prop} {wF : World} {base : Nat} {pv : Value} {L : List (List UInt8)} {dn : Bool} (h : OwnPages wF base pv L) (hB : ∀ β, B β → β < base) (hm : L.length ≤ 9223372036854775807) : OffDisk B wF (.agg #[pv, .slice none 0 0, .bool dn]) ⟨L, [], dn⟩ := by
  refine ⟨pv, _, [], rfl, rfl, fun W hW => ⟨?_, nil_rows W, by simp⟩⟩
  have hag : ∀ i, base ≤ i → i < wF.heap.size → W.heap[i]? = wF.heap[i]? := fun i h1 h2 => hW i h2 fun e => by have := hB i e; omega
  obtain ⟨gs, h1, h2, h3, h4, h5⟩ := h
  exact OwnPages.is (base := base) ⟨gs, own_agree h1 hag, h2, h3, h4, fun i g l hg hl => ⟨(hag g (h4 g (List.mem_of_getElem? hg)).1 (block_lt (h5 i g l hg hl).1)).trans (h5 i g l hg hl).1, (h5 i g l hg hl).2⟩⟩ hm
theorem off_pagesR {B : Nat → Prop} {wF : World} {base : Nat} {pv : Value} {L : List (List UInt8)} {dn : Bool} (h : OwnR wF base pv L) (hB : ∀ β, B β → β < base) (hm : L.length ≤ 9223372036854775807) (hl : ∀ l ∈ L, l.length ≤ 9223372036854775807) : OffDisk B wF (.agg #[pv, .slice none 0 0, .bool dn]) ⟨L, [], dn⟩ := by
  refine ⟨pv, _, [], rfl, rfl, fun W hW => ⟨?_, nil_rows W, by simp⟩⟩
  have hag : ∀ i, base ≤ i → i < wF.heap.size → W.heap[i]? = wF.heap[i]? := fun i h1 h2 => hW i h2 fun e => by have := hB i e; omega
  obtain ⟨us, h1, h2, h3, h4⟩ := h
  exact OwnR.is (base := base) ⟨us, own_agree h1 hag, h2, fun i u l hu hll => ⟨⟨own_agree (h3 i u l hu hll).1.1 hag, (h3 i u l hu hll).1.2⟩, (h3 i u l hu hll).2⟩, h4⟩ hm hl
set_option maxHeartbeats 4000000 in
set_option maxRecDepth 100000 in
theorem Sync_off (B : Nat → Prop) (v : Value) (d : Dk) (w : World) (h : IsDisk w v d) (hB : ∀ β, B β → β < w.heap.size) : Calls Try.prog 22 #[v] w (DiskErrOff B (syncD d) w) := by
  have h0 := h
  have HB := Lib.hid hB
  clear hB
  obtain ⟨pa, pc, wa, wc, rfl, hp, hw, m1, m2, m3⟩ := h.shape
  obtain ⟨C, hC⟩ : ∃ C, C = Obj.cells #[.slice pa d.pages.length pc, .slice wa d.writes.length wc, .bool d.down] 25 := ⟨_, rfl⟩
  obtain ⟨Z, hZ⟩ : ∃ Z, Z = Obj.cells #[.slice none 0 0, .slice none 0 0, .bool false] 25 := ⟨_, rfl⟩
  obtain ⟨wb, hwb⟩ : ∃ x : World, x = (w.alloc C).alloc Z := ⟨_, rfl⟩
  have b1 := below_new w C
  have b2 : Below (w.alloc C).heap.size (w.alloc C) wb := by subst hwb; exact below_new _ _
  have b0 := below_trans b1 b2
  have g0 : wb.heap[w.heap.size]? = some (.cells #[.slice pa d.pages.length pc, .slice wa d.writes.length wc, .bool d.down] 25 (0, 0)) := by
    subst hC; exact box_at b2
  have g1 : wb.heap[w.heap.size + 1]? = some (.cells #[.slice none 0 0, .slice none 0 0, .bool false] 25 (0, 0)) := by
    subst hwb hZ
    have := heap_alloc_new (w.alloc C) (.cells #[.slice none 0 0, .slice none 0 0, .bool false] 25)
    simpa using this
  have hsb : wb.heap.size = w.heap.size + 1 + 1 := by subst hwb; simp
  by_cases hf : failure d 0 = 0
  · have H := Lib.hid (show syncD d = (⟨replay d.pages d.writes, [], false⟩, 0) by unfold syncD; rw [if_neg (by simp [hf])])
    have hform := (failure_zero hf).1
    have HF := Lib.hid hf
    have HFm := Lib.hid hform
    clear hf hform
    go_enter Try.func22, Try.ntmps22
    go_wp2_with fail
    rw [← hC, ← hZ, ← hwb]
    clear hC hZ hwb b2
    refine (failure_eq (h0.keep b0) _ HF.out).mono ?_
    rintro e w3 ⟨rfl, b3⟩
    have b03 := below_trans b0 b3
    obtain ⟨y0, y1, y2, -, -, -⟩ := Box3.of (block_keep g0 b3)
    go_wp2_with fail
    refine (spin_x (h0.keep b03) HFm.out).mono ?_
    rintro e w4 ⟨gp, pv, rfl, hgp, hg4, hO4, b4⟩
    have b34 := below_trans b3 b4
    have hs3 := b3.size
    clear y0 y1 y2
    obtain ⟨y0, y1, y2, -, -, -⟩ := Box3.of (block_keep g0 b34)
    have b04 := below_trans b0 b34
    go_wp2
    have hsg : wb.heap.size ≤ gp := by omega
    have hlt4 : gp < w4.heap.size := block_lt hg4
    go_loopw [8, 22] (fun _ i wr => ∃ (k : Nat) (pv : Value), k ≤ d.writes.length ∧ i = .int .i64 k ∧ wr.heap[gp]? = some (.cells #[pv] 77 (0, 0)) ∧ OwnPages wr (gp + 1) pv (replay d.pages (d.writes.take k)) ∧ Below gp w4 wr) (fun _ i _ => d.writes.length - (intOf i).toNat)
    case atStart => exact ⟨0, pv, Nat.zero_le _, rfl, hg4, hO4, Below.refl _ _⟩
    case round =>
      obtain ⟨k, pv', hk, rfl, hgr, hOr, hb⟩ := hrel
      have bw : Below w.heap.size w wr := b04.trans (hb.mono (by omega))
      by_cases hlt : k < d.writes.length
      · obtain ⟨b, off, da, dc, rfl, c0, c1, hB⟩ := hw.at_ (List.getElem?_eq_getElem hlt)
        have HM := Lib.hid (((formed_iff d).1 HFm.out).2.2.1 d.writes[k] (List.getElem_mem hlt))
        have HT := Lib.hid (List.take_succ_eq_append_getElem hlt)
        have d0 := cell_keep bw c0
        have d1 := cell_keep bw c1
        generalize d.writes[k] = x at *
        clear c0 c1
        have hsr := hb.size
        go_wp2_with fail
        refine (plate_x (x := x) (block_keep hgr (below_new _ _)) (hOr.keep (below_new _ _)) (fun W hW => hB.keep ((bw.alloc bw.size _).trans (hW.mono (show w.heap.size ≤ gp by omega)))) HM.out (by omega) (by omega)).mono ?_
        rintro e w6 ⟨⟨u, rfl⟩, pv6, hg6, hO6, b6⟩
        go_wp2
        go_roundw
        case rel =>
          refine ⟨k + 1, pv6, by omega, by go_num, hg6, ?_, (hb.alloc (by omega) _).trans b6⟩
          rw [HT.out, replay_snoc]; exact hO6
        case measure => simp [intOf]; omega
      · have e : k = d.writes.length := by omega
        subst e
        rw [List.take_length] at hOr
        obtain ⟨va, vc, rfl⟩ := hOr.len
        have hcg : wr.cell? ⟨gp, 0, none⟩ = some (.slice va (replay d.pages d.writes).length vc) := cell_at (j := 0) hgr rfl
        have bb : Below wb.heap.size wb wr := b34.trans (hb.mono (show wb.heap.size ≤ gp by omega))
        obtain ⟨u0, u1, u2, uf0, uf1, uf2⟩ := Box3.of (block_keep g1 bb)
        have hne : gp ≠ w.heap.size + 1 := by omega
        have hne' : w.heap.size + 1 ≠ gp := by omega
        have HFS := Lib.hid (wide_of_formed HFm.out d.writes.length).2
        go_wp2
        refine bodyPost_ret (v := .tuple #[.agg #[.slice va (replay d.pages d.writes).length vc, .slice none 0 0, .bool false], .int .i64 0]) (by simp [results, Try.results22, go_sem, u0, u1, u2]) rfl ?_
        refine ⟨_, by rw [H.out], ?_, ?_⟩
        · rw [H.out]
          have hlen := HFS.out
          rw [List.take_length] at hlen
          exact off_pages (((hOr.store (p := ⟨w.heap.size + 1, 0, none⟩) (by simp; omega) _).store (p := ⟨w.heap.size + 1, 1, none⟩) (by simp; omega) _).store (p := ⟨w.heap.size + 1, 2, none⟩) (by simp; omega) _) (fun β hβ => by have := HB.out β hβ; omega) (by omega)
        · exact ((bw.setCell (p := ⟨w.heap.size + 1, 0, none⟩) (by simp) _).setCell (p := ⟨w.heap.size + 1, 1, none⟩) (by simp) _).setCell (p := ⟨w.heap.size + 1, 2, none⟩) (by simp) _
  · have H := Lib.hid (show syncD d = (noDisk, failure d 0) by unfold syncD; rw [if_pos hf])
    have hne := ne_beq hf
    have hbq : (failure d 0 != 0) = true := by simpa using hf
    generalize hR : failure d 0 = R at *
    have HR := Lib.hid hR
    clear hR
    go_enter Try.func22, Try.ntmps22
    go_wp2_with fail
    rw [← hC, ← hZ, ← hwb]
    refine (failure_eq (h0.keep b0) _ HR.out).mono ?_
    rintro e w3 ⟨rfl, b3⟩
    obtain ⟨u0, u1, u2, uf0, uf1, uf2⟩ := Box3.of (block_keep g1 b3)
    go_wp2
    refine bodyPost_ret (v := .tuple #[zeroV, .int .i64 R]) (by simp [results, Try.results22, go_sem, zeroV, u0, u1, u2]) rfl ?_
    refine ⟨zeroV, by rw [H.out], by rw [H.out]; exact OffDisk.zero B _, ?_⟩
    exact (((below_trans b0 b3).setCell (p := ⟨w.heap.size + 1, 0, none⟩) (by simp) _).setCell (p := ⟨w.heap.size + 1, 1, none⟩) (by simp) _).setCell (p := ⟨w.heap.size + 1, 2, none⟩) (by simp) _
set_option maxHeartbeats 4000000 in
set_option maxRecDepth 100000 in
theorem rSync_off (B : Nat → Prop) (v : Value) (d : Dk) (w : World) (h : IsDisk w v d) (hB : ∀ β, B β → β < w.heap.size) : Calls Try.prog 23 #[v] w (DiskErrOff B (syncD d) w) := by
  have h0 := h
  have HB := Lib.hid hB
  clear hB
  obtain ⟨pa, pc, wa, wc, rfl, hp, hw, m1, m2, m3⟩ := h.shape
  obtain ⟨C, hC⟩ : ∃ C, C = Obj.cells #[.slice pa d.pages.length pc, .slice wa d.writes.length wc, .bool d.down] 25 := ⟨_, rfl⟩
  obtain ⟨Z, hZ⟩ : ∃ Z, Z = Obj.cells #[.slice none 0 0, .slice none 0 0, .bool false] 25 := ⟨_, rfl⟩
  obtain ⟨wb, hwb⟩ : ∃ x : World, x = (w.alloc C).alloc Z := ⟨_, rfl⟩
  have b1 := below_new w C
  have b2 : Below (w.alloc C).heap.size (w.alloc C) wb := by subst hwb; exact below_new _ _
  have b0 := below_trans b1 b2
  have g0 : wb.heap[w.heap.size]? = some (.cells #[.slice pa d.pages.length pc, .slice wa d.writes.length wc, .bool d.down] 25 (0, 0)) := by
    subst hC; exact box_at b2
  have g1 : wb.heap[w.heap.size + 1]? = some (.cells #[.slice none 0 0, .slice none 0 0, .bool false] 25 (0, 0)) := by
    subst hwb hZ
    have := heap_alloc_new (w.alloc C) (.cells #[.slice none 0 0, .slice none 0 0, .bool false] 25)
    simpa using this
  have hsb : wb.heap.size = w.heap.size + 1 + 1 := by subst hwb; simp
  by_cases hf : failure d 0 = 0
  · have H := Lib.hid (show syncD d = (⟨replay d.pages d.writes, [], false⟩, 0) by unfold syncD; rw [if_neg (by simp [hf])])
    have hform := (failure_zero hf).1
    have HF := Lib.hid hf
    have HFm := Lib.hid hform
    have HP := Lib.hid (((formed_iff d).1 hform).2.1)
    have hpl : d.pages.length ≤ 400 := ((formed_iff d).1 hform).1
    clear hf hform
    go_enter Try.func23, Try.ntmps23
    go_wp2_with fail
    rw [← hC, ← hZ, ← hwb]
    clear hC hZ hwb b2
    refine (rfailure_eq (h0.keep b0) _ HF.out).mono ?_
    rintro e w3 ⟨rfl, b3⟩
    have b03 := below_trans b0 b3
    obtain ⟨y0, y1, y2, -, -, -⟩ := Box3.of (block_keep g0 b3)
    go_wp2_with fail
    refine (rpages_any _ d.pages _ (hp.keep b03) (by omega) (Lib.hid fun p hp => by have := HP.out p hp; omega)).mono ?_
    rintro e w5 ⟨pv, rfl, hO5, b5⟩
    have b35 := below_trans b3 b5
    have hs3 := b3.size
    have hs5 := b5.size
    clear y0 y1 y2
    have b05 := below_trans b0 b35
    have g05 := block_keep g0 b35
    have g15 := block_keep g1 b35
    go_wp2
    go_loopw [5, 6] (fun vo i wr => ∃ (k : Nat), k ≤ d.writes.length ∧ i = .int .i64 k ∧ OwnR wr w3.heap.size vo (replay d.pages (d.writes.take k)) ∧ Below w3.heap.size w5 wr) (fun _ i _ => d.writes.length - (intOf i).toNat)
    case atStart => exact ⟨0, Nat.zero_le _, rfl, hO5, Below.refl _ _⟩
    case round =>
      obtain ⟨k, hk, rfl, hOr, hb⟩ := hrel
      have bw3 : Below w3.heap.size w3 wr := b5.trans hb
      have bw : Below w.heap.size w wr := below_trans b03 bw3
      have g0r : wr.heap[w.heap.size]? = some (.cells #[.slice pa d.pages.length pc, .slice wa d.writes.length wc, .bool d.down] 25 (0, 0)) := (hb.block _ (by omega)).trans g05
      obtain ⟨y0, y1, y2, -, -, -⟩ := Box3.of g0r
      by_cases hlt : k < d.writes.length
      · obtain ⟨b, off, da, dc, rfl, c0, c1, hB⟩ := hw.at_ (List.getElem?_eq_getElem hlt)
        have HM := Lib.hid (((formed_iff d).1 HFm.out).2.2.1 d.writes[k] (List.getElem_mem hlt))
        have HT := Lib.hid (List.take_succ_eq_append_getElem hlt)
        have d0 := cell_keep bw c0
        have d1 := cell_keep bw c1
        generalize d.writes[k] = x at *
        clear c0 c1
        have hsr := hb.size
        have HFS := Lib.hid (wide_of_formed HFm.out k).1
        go_wp2_with fail
        refine (exec_x (x := x) hOr (by omega) (fun W hW => hB.keep (bw.trans (hW.mono (by omega)))) HM.out HFS.out).mono ?_
        rintro e w6 ⟨u, rfl, hO6, b6⟩
        go_wp2
        go_roundw
        case rel =>
          refine ⟨k + 1, by omega, by go_num, ?_, hb.trans b6⟩
          rw [HT.out, replay_snoc]; exact hO6
        case measure => simp [intOf]; omega
      · have e : k = d.writes.length := by omega
        subst e
        rw [List.take_length] at hOr
        obtain ⟨va, vc, rfl, hvc⟩ := hOr.len
        have g1r : wr.heap[w.heap.size + 1]? = some (.cells #[.slice none 0 0, .slice none 0 0, .bool false] 25 (0, 0)) := (hb.block _ (by omega)).trans g15
        obtain ⟨u0, u1, u2, uf0, uf1, uf2⟩ := Box3.of g1r
        have HFS := Lib.hid (wide_of_formed HFm.out d.writes.length)
        go_wp2
        refine bodyPost_ret (v := .tuple #[.agg #[.slice va (replay d.pages d.writes).length vc, .slice none 0 0, .bool false], .int .i64 0]) (by simp [results, Try.results23, go_sem, u0, u1, u2]) rfl ?_
        refine ⟨_, by rw [H.out], ?_, ?_⟩
        · rw [H.out]
          have hlen := HFS.out
          rw [List.take_length] at hlen
          have rF := ((hOr.store (p := ⟨w.heap.size + 1, 0, none⟩) (by simp; omega) (.slice va (replay d.pages d.writes).length vc)).store (p := ⟨w.heap.size + 1, 1, none⟩) (by simp; omega) (.slice none 0 0)).store (p := ⟨w.heap.size + 1, 2, none⟩) (by simp; omega) (.bool false)
          exact off_pagesR rF (fun β hβ => by have := HB.out β hβ; omega) (by omega) (fun l hl => by have := hlen.1 l hl; omega)
        · exact ((bw.setCell (p := ⟨w.heap.size + 1, 0, none⟩) (by simp) _).setCell (p := ⟨w.heap.size + 1, 1, none⟩) (by simp) _).setCell (p := ⟨w.heap.size + 1, 2, none⟩) (by simp) _
  · have H := Lib.hid (show syncD d = (noDisk, failure d 0) by unfold syncD; rw [if_pos hf])
    have hne := ne_beq hf
    have hbq : (failure d 0 != 0) = true := by simpa using hf
    generalize hR : failure d 0 = R at *
    have HR := Lib.hid hR
    clear hR
    go_enter Try.func23, Try.ntmps23
    go_wp2_with fail
    rw [← hC, ← hZ, ← hwb]
    refine (rfailure_eq (h0.keep b0) _ HR.out).mono ?_
    rintro e w3 ⟨rfl, b3⟩
    obtain ⟨u0, u1, u2, uf0, uf1, uf2⟩ := Box3.of (block_keep g1 b3)
    go_wp2
    refine bodyPost_ret (v := .tuple #[zeroV, .int .i64 R]) (by simp [results, Try.results23, go_sem, zeroV, u0, u1, u2]) rfl ?_
    refine ⟨zeroV, by rw [H.out], by rw [H.out]; exact OffDisk.zero B _, ?_⟩
    exact (((below_trans b0 b3).setCell (p := ⟨w.heap.size + 1, 0, none⟩) (by simp) _).setCell (p := ⟨w.heap.size + 1, 1, none⟩) (by simp) _).setCell (p := ⟨w.heap.size + 1, 2, none⟩) (by simp) _
end Go.Proofs.Ytcembocnkndlhaa
