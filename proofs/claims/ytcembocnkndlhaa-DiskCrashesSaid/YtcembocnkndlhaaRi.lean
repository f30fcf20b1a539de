/- The reference's walk: Sync. -/
import Derived.Test.YtcembocnkndlhaaRc
import Derived.Test.YtcembocnkndlhaaRe
import Derived.Test.YtcembocnkndlhaaWi
import Derived.Test.YtcembocnkndlhaaRg
namespace Go.Proofs.Ytcembocnkndlhaa
open Go.RowKit
theorem exec_x {v : Value} {base : Nat} {L : List (List UInt8)} {x : Wt} {dv : Value} {n : Int} {w : World} (hO : OwnR w base v L) (hbase : base ≤ w.heap.size) (hd : ∀ W, Below base w W → IsBytes W dv x.data) (hx : 0 ≤ x.at_ ∧ x.at_ < 400 ∧ x.data.length = 64) (hwd : Wide L) :
    Calls Try.prog 63 #[v, .agg #[.int .i64 x.at_, dv], .int .i64 n] w fun e w' => ∃ u, e = .returned u ∧ OwnR w' base u (put L x.at_.toNat x.data (max 0 (min n 64)).toNat) ∧ Below base w w' := by
  have h := rexec_any v base L x.at_.toNat dv x.data n w hO hbase hd hx.2.2 (by omega) (Lib.hid hwd)
  rw [show ((x.at_.toNat : Nat) : Int) = x.at_ by omega] at h
  exact h
set_option maxHeartbeats 4000000 in
set_option maxRecDepth 100000 in
theorem rSync_any (v : Value) (d : Dk) (w : World) (h : IsDisk w v d) : Calls Try.prog 23 #[v] w (DiskErr (syncD d) w) := by
  have h0 := h
  obtain ⟨pa, pc, wa, wc, rfl, hp, hw, m1, m2, m3⟩ := h.shape
  obtain ⟨C, hC⟩ : ∃ C, C = Obj.cells #[.slice pa d.pages.length pc, .slice wa d.writes.length wc, .bool d.down] 25 := ⟨_, rfl⟩
  obtain ⟨Z, hZ⟩ : ∃ Z, Z = Obj.cells #[.slice none 0 0, .slice none 0 0, .bool false] 25 := ⟨_, rfl⟩
  obtain ⟨wb, hwb⟩ : ∃ x : World, x = (w.alloc C).alloc Z := ⟨_, rfl⟩
  have b1 := below_new w C
  have b2 : Below (w.alloc C).heap.size (w.alloc C) wb := by subst hwb; exact below_new _ _
  have b0 := below_trans b1 b2
  have g0 : wb.heap[w.heap.size]? = some (.cells #[.slice pa d.pages.length pc, .slice wa d.writes.length wc, .bool d.down] 25 (0, 0)) := by
    subst hC; exact box_at b2
  have g1 : wb.heap[w.heap.size + 1]? = some (.cells #[.slice none 0 0, .slice none 0 0, .bool false] 25 (0, 0)) := by
    subst hwb hZ
    have := heap_alloc_new (w.alloc C) (.cells #[.slice none 0 0, .slice none 0 0, .bool false] 25)
    simpa using this
  have hsb : wb.heap.size = w.heap.size + 1 + 1 := by subst hwb; simp
  by_cases hf : failure d 0 = 0
  · have H := Lib.hid (show syncD d = (⟨replay d.pages d.writes, [], false⟩, 0) by unfold syncD; rw [if_neg (by simp [hf])])
    have hform := (failure_zero hf).1
    have HF := Lib.hid hf
    have HFm := Lib.hid hform
    have HP := Lib.hid (((formed_iff d).1 hform).2.1)
    have hpl : d.pages.length ≤ 400 := ((formed_iff d).1 hform).1
    clear hf hform
    go_enter Try.func23, Try.ntmps23
    go_wp2_with fail
    rw [← hC, ← hZ, ← hwb]
    clear hC hZ hwb b2
    refine (rfailure_eq (h0.keep b0) _ HF.out).mono ?_
    rintro e w3 ⟨rfl, b3⟩
    have b03 := below_trans b0 b3
    obtain ⟨y0, y1, y2, -, -, -⟩ := Box3.of (block_keep g0 b3)
    go_wp2_with fail
    refine (rpages_any _ d.pages _ (hp.keep b03) (by omega) (Lib.hid fun p hp => by have := HP.out p hp; omega)).mono ?_
    rintro e w5 ⟨pv, rfl, hO5, b5⟩
    have b35 := below_trans b3 b5
    have hs3 := b3.size
    have hs5 := b5.size
    clear y0 y1 y2
    have b05 := below_trans b0 b35
    have g05 := block_keep g0 b35
    have g15 := block_keep g1 b35
    go_wp2
    go_loopw [5, 6] (fun vo i wr => ∃ (k : Nat), k ≤ d.writes.length ∧ i = .int .i64 k ∧ OwnR wr w3.heap.size vo (replay d.pages (d.writes.take k)) ∧ Below w3.heap.size w5 wr) (fun _ i _ => d.writes.length - (intOf i).toNat)
    case atStart => exact ⟨0, Nat.zero_le _, rfl, hO5, Below.refl _ _⟩
    case round =>
      obtain ⟨k, hk, rfl, hOr, hb⟩ := hrel
      have bw3 : Below w3.heap.size w3 wr := b5.trans hb
      have bw : Below w.heap.size w wr := below_trans b03 bw3
      have g0r : wr.heap[w.heap.size]? = some (.cells #[.slice pa d.pages.length pc, .slice wa d.writes.length wc, .bool d.down] 25 (0, 0)) := (hb.block _ (by omega)).trans g05
      obtain ⟨y0, y1, y2, -, -, -⟩ := Box3.of g0r
      by_cases hlt : k < d.writes.length
      · obtain ⟨b, off, da, dc, rfl, c0, c1, hB⟩ := hw.at_ (List.getElem?_eq_getElem hlt)
        have HM := Lib.hid (((formed_iff d).1 HFm.out).2.2.1 d.writes[k] (List.getElem_mem hlt))
        have HT := Lib.hid (List.take_succ_eq_append_getElem hlt)
        have d0 := cell_keep bw c0
        have d1 := cell_keep bw c1
        generalize d.writes[k] = x at *
        clear c0 c1
        have hsr := hb.size
        have HFS := Lib.hid (wide_of_formed HFm.out k).1
        go_wp2_with fail
        refine (exec_x (x := x) hOr (by omega) (fun W hW => hB.keep (bw.trans (hW.mono (by omega)))) HM.out HFS.out).mono ?_
        rintro e w6 ⟨u, rfl, hO6, b6⟩
        go_wp2
        go_roundw
        case rel =>
          refine ⟨k + 1, by omega, by go_num, ?_, hb.trans b6⟩
          rw [HT.out, replay_snoc]; exact hO6
        case measure => simp [intOf]; omega
      · have e : k = d.writes.length := by omega
        subst e
        rw [List.take_length] at hOr
        obtain ⟨va, vc, rfl, hvc⟩ := hOr.len
        have g1r : wr.heap[w.heap.size + 1]? = some (.cells #[.slice none 0 0, .slice none 0 0, .bool false] 25 (0, 0)) := (hb.block _ (by omega)).trans g15
        obtain ⟨u0, u1, u2, uf0, uf1, uf2⟩ := Box3.of g1r
        have HFS := Lib.hid (wide_of_formed HFm.out d.writes.length)
        go_wp2
        refine bodyPost_ret (v := .tuple #[.agg #[.slice va (replay d.pages d.writes).length vc, .slice none 0 0, .bool false], .int .i64 0]) (by simp [results, Try.results23, go_sem, u0, u1, u2]) rfl ?_
        refine ⟨_, by rw [H.out], ?_, ?_⟩
        · rw [H.out]
          have hlen := HFS.out
          rw [List.take_length] at hlen
          have rF := ((hOr.store (p := ⟨w.heap.size + 1, 0, none⟩) (by simp; omega) (.slice va (replay d.pages d.writes).length vc)).store (p := ⟨w.heap.size + 1, 1, none⟩) (by simp; omega) (.slice none 0 0)).store (p := ⟨w.heap.size + 1, 2, none⟩) (by simp; omega) (.bool false)
          exact ⟨_, _, rfl, rF.is (by omega) (fun l hl => by have := hlen.1 l hl; omega), IsWrites.nil _⟩
        · exact ((bw.setCell (p := ⟨w.heap.size + 1, 0, none⟩) (by simp) _).setCell (p := ⟨w.heap.size + 1, 1, none⟩) (by simp) _).setCell (p := ⟨w.heap.size + 1, 2, none⟩) (by simp) _
  · have H := Lib.hid (show syncD d = (noDisk, failure d 0) by unfold syncD; rw [if_pos hf])
    have hne := ne_beq hf
    have hbq : (failure d 0 != 0) = true := by simpa using hf
    generalize hR : failure d 0 = R at *
    have HR := Lib.hid hR
    clear hR
    go_enter Try.func23, Try.ntmps23
    go_wp2_with fail
    rw [← hC, ← hZ, ← hwb]
    refine (rfailure_eq (h0.keep b0) _ HR.out).mono ?_
    rintro e w3 ⟨rfl, b3⟩
    obtain ⟨u0, u1, u2, uf0, uf1, uf2⟩ := Box3.of (block_keep g1 b3)
    go_wp2
    refine bodyPost_ret (v := .tuple #[zeroV, .int .i64 R]) (by simp [results, Try.results23, go_sem, zeroV, u0, u1, u2]) rfl ?_
    refine ⟨zeroV, by rw [H.out], by rw [H.out]; exact IsDisk.zero _, ?_⟩
    exact (((below_trans b0 b3).setCell (p := ⟨w.heap.size + 1, 0, none⟩) (by simp) _).setCell (p := ⟨w.heap.size + 1, 1, none⟩) (by simp) _).setCell (p := ⟨w.heap.size + 1, 2, none⟩) (by simp) _
end Go.Proofs.Ytcembocnkndlhaa
