/- The walk of Crash. -/
import Derived.Test.YtcembocnkndlhaaWi
import Derived.Deep.CutRange
namespace Go.Proofs.Ytcembocnkndlhaa
open Go.RowKit
set_option maxHeartbeats 4000000 in
set_option maxRecDepth 100000 in
theorem Crash_any (v : Value) (d : Dk) (keep torn : Int) (w : World) (h : IsDisk w v d) : Calls Try.prog 27 #[v, .int .i64 keep, .int .i64 torn] w (DiskRet (crashD d keep torn) w) := by
  have h0 := h
  obtain ⟨pa, pc, wa, wcp, rfl, hp, hw, m1, m2, m3⟩ := h.shape
  obtain ⟨C, hC⟩ : ∃ C, C = Obj.cells #[.slice pa d.pages.length pc, .slice wa d.writes.length wcp, .bool d.down] 25 := ⟨_, rfl⟩
  obtain ⟨Z, hZ⟩ : ∃ Z, Z = Obj.cells #[.slice none 0 0, .slice none 0 0, .bool false] 25 := ⟨_, rfl⟩
  obtain ⟨wb, hwb⟩ : ∃ x : World, x = (w.alloc C).alloc Z := ⟨_, rfl⟩
  have b1 := below_new w C
  have b2 : Below (w.alloc C).heap.size (w.alloc C) wb := by subst hwb; exact below_new _ _
  have b0 := below_trans b1 b2
  have g0 : wb.heap[w.heap.size]? = some (.cells #[.slice pa d.pages.length pc, .slice wa d.writes.length wcp, .bool d.down] 25 (0, 0)) := by
    subst hC; exact box_at b2
  have g1 : wb.heap[w.heap.size + 1]? = some (.cells #[.slice none 0 0, .slice none 0 0, .bool false] 25 (0, 0)) := by
    subst hwb hZ
    have := heap_alloc_new (w.alloc C) (.cells #[.slice none 0 0, .slice none 0 0, .bool false] 25)
    simpa using this
  have hsb : wb.heap.size = w.heap.size + 1 + 1 := by subst hwb; simp
  cases hf : formed d
  · have H := Lib.hid (show crashD d keep torn = noDisk by unfold crashD; rw [hf]; rfl)
    have HF := Lib.hid hf
    clear hf
    go_enter Try.func27, Try.ntmps27
    go_wp2_with fail
    rw [← hC, ← hZ, ← hwb]
    refine (formed_eq (h0.keep b0) _ HF.out).mono ?_
    rintro e w3 ⟨rfl, b3⟩
    obtain ⟨u0, u1, u2, uf0, uf1, uf2⟩ := Box3.of (block_keep g1 b3)
    go_wp2
    refine bodyPost_ret (v := zeroV) (by simp [results, Try.results27, go_sem, zeroV, u0, u1, u2]) rfl ?_
    refine ⟨zeroV, rfl, by rw [H.out]; exact IsDisk.zero _, ?_⟩
    exact (((below_trans b0 b3).setCell (p := ⟨w.heap.size + 1, 0, none⟩) (by simp) _).setCell (p := ⟨w.heap.size + 1, 1, none⟩) (by simp) _).setCell (p := ⟨w.heap.size + 1, 2, none⟩) (by simp) _
  · have H := Lib.hid (show crashD d keep torn = ⟨broken d keep torn, [], true⟩ by unfold crashD; rw [hf]; rfl)
    have HFm := Lib.hid hf
    clear hf
    go_enter Try.func27, Try.ntmps27
    go_wp2_with fail
    rw [← hC, ← hZ, ← hwb]
    clear hC hZ hwb b2
    refine (formed_eq (h0.keep b0) _ HFm.out).mono ?_
    rintro e w3 ⟨rfl, b3⟩
    have b03 := below_trans b0 b3
    obtain ⟨y0, y1, y2, -, -, -⟩ := Box3.of (block_keep g0 b3)
    go_wp2_with fail
    refine (spin_x (h0.keep b03) HFm.out).mono ?_
    rintro e w4 ⟨gp, pv, rfl, hgp, hg4, hO4, b4⟩
    have b34 := below_trans b3 b4
    have hs3 := b3.size
    clear y0 y1 y2
    obtain ⟨y0, y1, y2, -, -, -⟩ := Box3.of (block_keep g0 b34)
    have b04 := below_trans b0 b34
    have hsg : wb.heap.size ≤ gp := by omega
    have hlt4 : gp < w4.heap.size := block_lt hg4
    obtain ⟨kk, hkk⟩ : ∃ kk, kept d keep = kk := ⟨_, rfl⟩
    have hkl : kk ≤ d.writes.length := by rw [← hkk]; exact kept_le d keep
    have hk1 : max 0 (min keep d.writes.length) = (kk : Int) := by unfold kept at hkk; omega
    go_upto_region 5 with fail
    have HK1 := Lib.hid hk1
    have HKK := Lib.hid hkk
    clear hk1 hkk
    go_cut [1] from 19 to 24 (fun v1 wx => v1 = .int .i64 (kk : Int) ∧ w4 = wx)
    case first =>
      go_wp2
      all_goals
        go_meet
        case rel => exact ⟨by congr 1; have := HK1.out; omega, rfl⟩
    case rest =>
      obtain ⟨rfl, rfl⟩ := hcut
      have hlw : kk ≤ wcp := by omega
      have hnl : (0 : Int) ≤ (kk : Int) := by omega
      have hnl2 : (kk : Int) ≤ (wcp : Int) := by omega
      go_wp2
      go_loopw [10, 30] (fun _ i wr => ∃ (k : Nat) (pv : Value), k ≤ kk ∧ i = .int .i64 k ∧ wr.heap[gp]? = some (.cells #[pv] 77 (0, 0)) ∧ OwnPages wr (gp + 1) pv (replay d.pages (d.writes.take k)) ∧ Below gp w4 wr) (fun _ i _ => kk - (intOf i).toNat)
      case atStart => exact ⟨0, pv, Nat.zero_le _, rfl, hg4, hO4, Below.refl _ _⟩
      case round =>
        obtain ⟨k, pv', hk, rfl, hgr, hOr, hb⟩ := hrel
        have bw : Below w.heap.size w wr := b04.trans (hb.mono (by omega))
        by_cases hlt : k < kk
        · have hltw : k < d.writes.length := by omega
          obtain ⟨b, off, da, dc, rfl, c0, c1, hB⟩ := hw.at_ (List.getElem?_eq_getElem hltw)
          have HM := Lib.hid (((formed_iff d).1 HFm.out).2.2.1 d.writes[k] (List.getElem_mem hltw))
          have HT := Lib.hid (List.take_succ_eq_append_getElem hltw)
          have d0 := cell_keep bw c0
          have d1 := cell_keep bw c1
          generalize d.writes[k] = x at *
          clear c0 c1
          have hsr := hb.size
          go_wp2_with fail
          refine (plate_x (x := x) (block_keep hgr (below_new _ _)) (hOr.keep (below_new _ _)) (fun W hW => hB.keep ((bw.alloc bw.size _).trans (hW.mono (show w.heap.size ≤ gp by omega)))) HM.out (by omega) (by omega)).mono ?_
          rintro e w6 ⟨⟨u, rfl⟩, pv6, hg6, hO6, b6⟩
          go_wp2
          go_roundw
          case rel =>
            refine ⟨k + 1, pv6, by omega, by go_num, hg6, ?_, (hb.alloc (by omega) _).trans b6⟩
            rw [HT.out, replay_snoc]; exact hO6
          case measure => simp [intOf]; omega
        · have e : k = kk := by omega
          subst e
          obtain ⟨w5, rfl⟩ : ∃ x : World, x = wr := ⟨_, rfl⟩
          have bb : Below wb.heap.size wb w5 := b34.trans (hb.mono (show wb.heap.size ≤ gp by omega))
          obtain ⟨y0, y1, y2, -, -, -⟩ := Box3.of (block_keep g0 bb)
          have hne : gp ≠ w.heap.size + 1 := by omega
          have hne' : w.heap.size + 1 ≠ gp := by omega
          by_cases hq : k < d.writes.length ∧ torn > 0
          · obtain ⟨hq1, hq2⟩ := hq
            have hd1 : decide ((k : Int) < (d.writes.length : Int)) = true := decide_eq_true (by omega)
            have hd2 : decide (0 < torn) = true := decide_eq_true hq2
            obtain ⟨b, off, da, dc, rfl, c0, c1, hB⟩ := hw.at_ (List.getElem?_eq_getElem hq1)
            have HM := Lib.hid (((formed_iff d).1 HFm.out).2.2.1 d.writes[k] (List.getElem_mem hq1))
            have HB := Lib.hid (show broken d keep torn = put (replay d.pages (d.writes.take k)) d.writes[k].at_.toNat d.writes[k].data (min torn 64).toNat by
              unfold broken
              rw [HKK.out, List.getElem?_eq_getElem hq1]
              dsimp only
              rw [if_pos hq2])
            have HFS := Lib.hid (broken_wide HFm.out keep torn).2
            have d0 := cell_keep bw c0
            have d1 := cell_keep bw c1
            generalize d.writes[k] = x at *
            clear c0 c1
            have hsr := hb.size
            have key : ∀ n : Int, n = min torn 64 → Calls Try.prog 62 #[.pointer (some ⟨gp, 0, none⟩), .agg #[.int .i64 x.at_, .slice da x.data.length dc], .int .i64 n] w5 (Wrote gp (put (replay d.pages (d.writes.take k)) x.at_.toNat x.data (min torn 64).toNat) w5) := fun n hn => by
              subst hn
              exact plate_x (x := x) hgr hOr (fun W hW => hB.keep (bw.trans (hW.mono (show w.heap.size ≤ gp by omega)))) HM.out (by omega) (by omega)
            by_cases ht : torn ≤ 64
            all_goals
              first
                | have HN := Lib.hid (key torn (by omega))
                | have HN := Lib.hid (key 64 (by omega))
              clear key
              go_wp2_with fail
              refine HN.out.mono ?_
              rintro e w6 ⟨⟨u, rfl⟩, pv6, hg6, hO6, b6⟩
              have b56 : Below w.heap.size w w6 := bw.trans (b6.mono (show w.heap.size ≤ gp by omega))
              rw [← HB.out] at hO6
              generalize broken d keep torn = R at *
              obtain ⟨va, vc, rfl⟩ := hO6.len
              have hcg : w6.cell? ⟨gp, 0, none⟩ = some (.slice va R.length vc) := cell_at (j := 0) hg6 rfl
              obtain ⟨u0, u1, u2, uf0, uf1, uf2⟩ := Box3.of (block_keep g1 (bb.trans (b6.mono (show wb.heap.size ≤ gp by omega))))
              go_wp2
              refine bodyPost_ret (v := .agg #[.slice va R.length vc, .slice none 0 0, .bool true]) (by simp [results, Try.results27, go_sem, u0, u1, u2]) rfl ?_
              refine ⟨_, rfl, ?_, ?_⟩
              · rw [H.out]
                exact ⟨_, _, rfl, OwnPages.is (((hO6.store (p := ⟨w.heap.size + 1, 0, none⟩) (by simp; omega) _).store (p := ⟨w.heap.size + 1, 1, none⟩) (by simp; omega) _).store (p := ⟨w.heap.size + 1, 2, none⟩) (by simp; omega) _) (by have := HFS.out; dsimp only; omega), IsWrites.nil _⟩
              · exact ((b56.setCell (p := ⟨w.heap.size + 1, 0, none⟩) (by simp) _).setCell (p := ⟨w.heap.size + 1, 1, none⟩) (by simp) _).setCell (p := ⟨w.heap.size + 1, 2, none⟩) (by simp) _
          · have HB := Lib.hid (show broken d keep torn = replay d.pages (d.writes.take k) by
              unfold broken
              rw [HKK.out]
              split
              · rename_i x hx
                have := (List.getElem?_eq_some_iff.1 hx).1
                rw [if_neg (by omega)]
              · rfl)
            have HFS := Lib.hid (wide_of_formed HFm.out k).2
            obtain ⟨va, vc, rfl⟩ := hOr.len
            have hcg : w5.cell? ⟨gp, 0, none⟩ = some (.slice va (replay d.pages (d.writes.take k)).length vc) := cell_at (j := 0) hgr rfl
            obtain ⟨u0, u1, u2, uf0, uf1, uf2⟩ := Box3.of (block_keep g1 bb)
            generalize replay d.pages (d.writes.take k) = R at *
            by_cases hq1 : k < d.writes.length
            all_goals
              first
                | have hd1 : decide ((k : Int) < (d.writes.length : Int)) = true := decide_eq_true (by omega)
                | have hd1 : decide ((k : Int) < (d.writes.length : Int)) = false := decide_eq_false (by omega)
              try have hd2 : decide (0 < torn) = false := decide_eq_false (by omega)
              clear hq
              go_wp2
              refine bodyPost_ret (v := .agg #[.slice va R.length vc, .slice none 0 0, .bool true]) (by simp [results, Try.results27, go_sem, u0, u1, u2]) rfl ?_
              refine ⟨_, rfl, ?_, ?_⟩
              · rw [H.out, HB.out]
                exact ⟨_, _, rfl, OwnPages.is (((hOr.store (p := ⟨w.heap.size + 1, 0, none⟩) (by simp; omega) _).store (p := ⟨w.heap.size + 1, 1, none⟩) (by simp; omega) _).store (p := ⟨w.heap.size + 1, 2, none⟩) (by simp; omega) _) (by have := HFS.out; dsimp only; omega), IsWrites.nil _⟩
              · exact ((bw.setCell (p := ⟨w.heap.size + 1, 0, none⟩) (by simp) _).setCell (p := ⟨w.heap.size + 1, 1, none⟩) (by simp) _).setCell (p := ⟨w.heap.size + 1, 2, none⟩) (by simp) _
end Go.Proofs.Ytcembocnkndlhaa
