/- The walk of Sync. -/
import Derived.Test.YtcembocnkndlhaaWh
import Derived.Test.YtcembocnkndlhaaLaws
namespace Go.Proofs.Ytcembocnkndlhaa
open Go.RowKit
theorem plate_x {gp : Nat} {pv : Value} {L : List (List UInt8)} {x : Wt} {dv : Value} {n : Int} {w : World} (hg : w.heap[gp]? = some (.cells #[pv] 77 (0, 0))) (hO : OwnPages w (gp + 1) pv L) (hd : ∀ W, Below gp w W → IsBytes W dv x.data)
    (hx : 0 ≤ x.at_ ∧ x.at_ < 400 ∧ x.data.length = 64) (h0 : 0 ≤ n) (hn : n ≤ 64) :
    Calls Try.prog 62 #[.pointer (some ⟨gp, 0, none⟩), .agg #[.int .i64 x.at_, dv], .int .i64 n] w (Wrote gp (put L x.at_.toNat x.data n.toNat) w) := by
  have h := plate_any gp pv L x.at_.toNat dv x.data n.toNat w hg hO hd hx.2.2 (by omega) (by omega)
  rw [show ((x.at_.toNat : Nat) : Int) = x.at_ by omega, show ((n.toNat : Nat) : Int) = n by omega] at h
  exact h
theorem spin_x {v : Value} {d : Dk} {w : World} (h : IsDisk w v d) (hf : formed d = true) : Calls Try.prog 61 #[v] w (Spun d.pages w) := by
  obtain ⟨h1, h2, h3, h4⟩ := (formed_iff d).1 hf
  have e : d.pages.map full = d.pages := by
    have : ∀ l : List (List UInt8), (∀ p ∈ l, p.length = 64) → l.map full = l := by
      intro l
      induction l with
      | nil => intro _; rfl
      | cons p r ih => intro hl; rw [List.map_cons, full_self (hl p (by simp)), ih fun q hq => hl q (by simp [hq])]
    exact this _ h2
  have := spin_any v d w h h1
  rwa [e] at this
theorem Box3.set {w : World} {g : Nat} {a b c x y z : Value} {t : TypeId} (h : w.heap[g]? = some (.cells #[a, b, c] t (0, 0))) : (((w.setCell ⟨g, 0, none⟩ x).setCell ⟨g, 1, none⟩ y).setCell ⟨g, 2, none⟩ z).heap[g]? = some (.cells #[x, y, z] t (0, 0)) := by
  simp [World.setCell, Array.getElem?_modify, h]
set_option maxHeartbeats 4000000 in
set_option maxRecDepth 100000 in
theorem Sync_any (v : Value) (d : Dk) (w : World) (h : IsDisk w v d) : Calls Try.prog 22 #[v] w (DiskErr (syncD d) w) := by
  have h0 := h
  obtain ⟨pa, pc, wa, wc, rfl, hp, hw, m1, m2, m3⟩ := h.shape
  obtain ⟨C, hC⟩ : ∃ C, C = Obj.cells #[.slice pa d.pages.length pc, .slice wa d.writes.length wc, .bool d.down] 25 := ⟨_, rfl⟩
  obtain ⟨Z, hZ⟩ : ∃ Z, Z = Obj.cells #[.slice none 0 0, .slice none 0 0, .bool false] 25 := ⟨_, rfl⟩
  obtain ⟨wb, hwb⟩ : ∃ x : World, x = (w.alloc C).alloc Z := ⟨_, rfl⟩
  have b1 := below_new w C
  have b2 : Below (w.alloc C).heap.size (w.alloc C) wb := by subst hwb; exact below_new _ _
  have b0 := below_trans b1 b2
  have g0 : wb.heap[w.heap.size]? = some (.cells #[.slice pa d.pages.length pc, .slice wa d.writes.length wc, .bool d.down] 25 (0, 0)) := by
    subst hC; exact box_at b2
  have g1 : wb.heap[w.heap.size + 1]? = some (.cells #[.slice none 0 0, .slice none 0 0, .bool false] 25 (0, 0)) := by
    subst hwb hZ
    have := heap_alloc_new (w.alloc C) (.cells #[.slice none 0 0, .slice none 0 0, .bool false] 25)
    simpa using this
  have hsb : wb.heap.size = w.heap.size + 1 + 1 := by subst hwb; simp
  by_cases hf : failure d 0 = 0
  · have H := Lib.hid (show syncD d = (⟨replay d.pages d.writes, [], false⟩, 0) by unfold syncD; rw [if_neg (by simp [hf])])
    have hform := (failure_zero hf).1
    have HF := Lib.hid hf
    have HFm := Lib.hid hform
    clear hf hform
    go_enter Try.func22, Try.ntmps22
    go_wp2_with fail
    rw [← hC, ← hZ, ← hwb]
    clear hC hZ hwb b2
    refine (failure_eq (h0.keep b0) _ HF.out).mono ?_
    rintro e w3 ⟨rfl, b3⟩
    have b03 := below_trans b0 b3
    obtain ⟨y0, y1, y2, -, -, -⟩ := Box3.of (block_keep g0 b3)
    go_wp2_with fail
    refine (spin_x (h0.keep b03) HFm.out).mono ?_
    rintro e w4 ⟨gp, pv, rfl, hgp, hg4, hO4, b4⟩
    have b34 := below_trans b3 b4
    have hs3 := b3.size
    clear y0 y1 y2
    obtain ⟨y0, y1, y2, -, -, -⟩ := Box3.of (block_keep g0 b34)
    have b04 := below_trans b0 b34
    go_wp2
    have hsg : wb.heap.size ≤ gp := by omega
    have hlt4 : gp < w4.heap.size := block_lt hg4
    go_loopw [8, 22] (fun _ i wr => ∃ (k : Nat) (pv : Value), k ≤ d.writes.length ∧ i = .int .i64 k ∧ wr.heap[gp]? = some (.cells #[pv] 77 (0, 0)) ∧ OwnPages wr (gp + 1) pv (replay d.pages (d.writes.take k)) ∧ Below gp w4 wr) (fun _ i _ => d.writes.length - (intOf i).toNat)
    case atStart => exact ⟨0, pv, Nat.zero_le _, rfl, hg4, hO4, Below.refl _ _⟩
    case round =>
      obtain ⟨k, pv', hk, rfl, hgr, hOr, hb⟩ := hrel
      have bw : Below w.heap.size w wr := b04.trans (hb.mono (by omega))
      by_cases hlt : k < d.writes.length
      · obtain ⟨b, off, da, dc, rfl, c0, c1, hB⟩ := hw.at_ (List.getElem?_eq_getElem hlt)
        have HM := Lib.hid (((formed_iff d).1 HFm.out).2.2.1 d.writes[k] (List.getElem_mem hlt))
        have HT := Lib.hid (List.take_succ_eq_append_getElem hlt)
        have d0 := cell_keep bw c0
        have d1 := cell_keep bw c1
        generalize d.writes[k] = x at *
        clear c0 c1
        have hsr := hb.size
        go_wp2_with fail
        refine (plate_x (x := x) (block_keep hgr (below_new _ _)) (hOr.keep (below_new _ _)) (fun W hW => hB.keep ((bw.alloc bw.size _).trans (hW.mono (show w.heap.size ≤ gp by omega)))) HM.out (by omega) (by omega)).mono ?_
        rintro e w6 ⟨⟨u, rfl⟩, pv6, hg6, hO6, b6⟩
        go_wp2
        go_roundw
        case rel =>
          refine ⟨k + 1, pv6, by omega, by go_num, hg6, ?_, (hb.alloc (by omega) _).trans b6⟩
          rw [HT.out, replay_snoc]; exact hO6
        case measure => simp [intOf]; omega
      · have e : k = d.writes.length := by omega
        subst e
        rw [List.take_length] at hOr
        obtain ⟨va, vc, rfl⟩ := hOr.len
        have hcg : wr.cell? ⟨gp, 0, none⟩ = some (.slice va (replay d.pages d.writes).length vc) := cell_at (j := 0) hgr rfl
        have bb : Below wb.heap.size wb wr := b34.trans (hb.mono (show wb.heap.size ≤ gp by omega))
        obtain ⟨u0, u1, u2, uf0, uf1, uf2⟩ := Box3.of (block_keep g1 bb)
        have hne : gp ≠ w.heap.size + 1 := by omega
        have hne' : w.heap.size + 1 ≠ gp := by omega
        have HFS := Lib.hid (wide_of_formed HFm.out d.writes.length).2
        go_wp2
        refine bodyPost_ret (v := .tuple #[.agg #[.slice va (replay d.pages d.writes).length vc, .slice none 0 0, .bool false], .int .i64 0]) (by simp [results, Try.results22, go_sem, u0, u1, u2]) rfl ?_
        refine ⟨_, by rw [H.out], ?_, ?_⟩
        · rw [H.out]
          have hlen := HFS.out
          rw [List.take_length] at hlen
          exact ⟨_, _, rfl, OwnPages.is (((hOr.store (p := ⟨w.heap.size + 1, 0, none⟩) (by simp; omega) _).store (p := ⟨w.heap.size + 1, 1, none⟩) (by simp; omega) _).store (p := ⟨w.heap.size + 1, 2, none⟩) (by simp; omega) _) (by dsimp only; omega), IsWrites.nil _⟩
        · exact ((bw.setCell (p := ⟨w.heap.size + 1, 0, none⟩) (by simp) _).setCell (p := ⟨w.heap.size + 1, 1, none⟩) (by simp) _).setCell (p := ⟨w.heap.size + 1, 2, none⟩) (by simp) _
  · have H := Lib.hid (show syncD d = (noDisk, failure d 0) by unfold syncD; rw [if_pos hf])
    have hne := ne_beq hf
    have hbq : (failure d 0 != 0) = true := by simpa using hf
    generalize hR : failure d 0 = R at *
    have HR := Lib.hid hR
    clear hR
    go_enter Try.func22, Try.ntmps22
    go_wp2_with fail
    rw [← hC, ← hZ, ← hwb]
    refine (failure_eq (h0.keep b0) _ HR.out).mono ?_
    rintro e w3 ⟨rfl, b3⟩
    obtain ⟨u0, u1, u2, uf0, uf1, uf2⟩ := Box3.of (block_keep g1 b3)
    go_wp2
    refine bodyPost_ret (v := .tuple #[zeroV, .int .i64 R]) (by simp [results, Try.results22, go_sem, zeroV, u0, u1, u2]) rfl ?_
    refine ⟨zeroV, by rw [H.out], by rw [H.out]; exact IsDisk.zero _, ?_⟩
    exact (((below_trans b0 b3).setCell (p := ⟨w.heap.size + 1, 0, none⟩) (by simp) _).setCell (p := ⟨w.heap.size + 1, 1, none⟩) (by simp) _).setCell (p := ⟨w.heap.size + 1, 2, none⟩) (by simp) _
end Go.Proofs.Ytcembocnkndlhaa
