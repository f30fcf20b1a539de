/- The reference's walk: Crash. -/
import Derived.Test.YtcembocnkndlhaaRi
import Derived.Test.YtcembocnkndlhaaWj
namespace Go.Proofs.Ytcembocnkndlhaa
open Go.RowKit
/-- The pages after i writes. -/
def stage (d : Dk) (keep torn : Int) (i : Nat) : List (List UInt8) := if i ≤ kept d keep then replay d.pages (d.writes.take i) else broken d keep torn
theorem stage_zero (d : Dk) (keep torn : Int) : stage d keep torn 0 = d.pages := by
  unfold stage; rw [if_pos (Nat.zero_le _)]; rfl
theorem stage_low {d : Dk} {keep torn : Int} {i : Nat} (hi : i < d.writes.length) (h : (i : Int) < keep) : stage d keep torn (i + 1) = put (stage d keep torn i) d.writes[i].at_.toNat d.writes[i].data 64 := by
  have hk : i < kept d keep := by unfold kept; omega
  unfold stage
  rw [if_pos (by omega), if_pos (by omega), List.take_succ_eq_append_getElem hi, replay_snoc]
theorem kept_high {d : Dk} {keep : Int} {i : Nat} (hi : i < d.writes.length) (h : ¬ (i : Int) < keep) : (kept d keep : Int) = max 0 keep ∧ kept d keep ≤ i := by
  unfold kept; omega
theorem stage_torn {d : Dk} {keep torn : Int} {i : Nat} (hi : i < d.writes.length) (h : ¬ (i : Int) < keep) (he : (i : Int) = max keep 0) (ht : 0 < torn) : stage d keep torn (i + 1) = put (stage d keep torn i) d.writes[i].at_.toNat d.writes[i].data (min torn 64).toNat := by
  have := kept_high hi h
  have hk : kept d keep = i := by omega
  unfold stage
  rw [if_neg (by omega), if_pos (by omega)]
  unfold broken
  rw [hk, List.getElem?_eq_getElem hi]
  dsimp only
  rw [if_pos ht]
theorem stage_stay {d : Dk} {keep torn : Int} {i : Nat} (hi : i < d.writes.length) (h : ¬ (i : Int) < keep) (he : ¬ ((i : Int) = max keep 0 ∧ 0 < torn)) : stage d keep torn (i + 1) = stage d keep torn i := by
  have := kept_high hi h
  unfold stage
  rw [if_neg (by omega)]
  split
  · have hk : kept d keep = i := by omega
    unfold broken
    rw [hk, List.getElem?_eq_getElem hi]
    dsimp only
    rw [if_neg (by omega)]
  · rfl
theorem stage_end (d : Dk) (keep torn : Int) : stage d keep torn d.writes.length = broken d keep torn := by
  unfold stage
  split
  · have hk : kept d keep = d.writes.length := by have := kept_le d keep; omega
    unfold broken
    rw [hk, List.getElem?_eq_none (Nat.le_refl _)]
  · rfl
theorem stage_wide {d : Dk} (hf : formed d = true) (keep torn : Int) (i : Nat) : Wide (stage d keep torn i) ∧ (stage d keep torn i).length ≤ 400 := by
  unfold stage
  split
  · exact wide_of_formed hf i
  · exact broken_wide hf keep torn
set_option maxHeartbeats 4000000 in
set_option maxRecDepth 100000 in
theorem rCrash_any (v : Value) (d : Dk) (keep torn : Int) (w : World) (h : IsDisk w v d) : Calls Try.prog 28 #[v, .int .i64 keep, .int .i64 torn] w (DiskRet (crashD d keep torn) w) := by
  have h0 := h
  obtain ⟨pa, pc, wa, wc, rfl, hp, hw, m1, m2, m3⟩ := h.shape
  obtain ⟨C, hC⟩ : ∃ C, C = Obj.cells #[.slice pa d.pages.length pc, .slice wa d.writes.length wc, .bool d.down] 25 := ⟨_, rfl⟩
  obtain ⟨Z, hZ⟩ : ∃ Z, Z = Obj.cells #[.slice none 0 0, .slice none 0 0, .bool false] 25 := ⟨_, rfl⟩
  obtain ⟨wb, hwb⟩ : ∃ x : World, x = (w.alloc C).alloc Z := ⟨_, rfl⟩
  have b1 := below_new w C
  have b2 : Below (w.alloc C).heap.size (w.alloc C) wb := by subst hwb; exact below_new _ _
  have b0 := below_trans b1 b2
  have g0 : wb.heap[w.heap.size]? = some (.cells #[.slice pa d.pages.length pc, .slice wa d.writes.length wc, .bool d.down] 25 (0, 0)) := by
    subst hC; exact box_at b2
  have g1 : wb.heap[w.heap.size + 1]? = some (.cells #[.slice none 0 0, .slice none 0 0, .bool false] 25 (0, 0)) := by
    subst hwb hZ
    have := heap_alloc_new (w.alloc C) (.cells #[.slice none 0 0, .slice none 0 0, .bool false] 25)
    simpa using this
  have hsb : wb.heap.size = w.heap.size + 1 + 1 := by subst hwb; simp
  cases hf : formed d
  · have H := Lib.hid (show crashD d keep torn = noDisk by unfold crashD; rw [hf]; rfl)
    have HF := Lib.hid hf
    clear hf
    go_enter Try.func28, Try.ntmps28
    go_wp2_with fail
    rw [← hC, ← hZ, ← hwb]
    refine (rformed_eq (h0.keep b0) _ HF.out).mono ?_
    rintro e w3 ⟨rfl, b3⟩
    obtain ⟨u0, u1, u2, uf0, uf1, uf2⟩ := Box3.of (block_keep g1 b3)
    go_wp2
    refine bodyPost_ret (v := zeroV) (by simp [results, Try.results28, go_sem, zeroV, u0, u1, u2]) rfl ?_
    refine ⟨zeroV, rfl, by rw [H.out]; exact IsDisk.zero _, ?_⟩
    exact (((below_trans b0 b3).setCell (p := ⟨w.heap.size + 1, 0, none⟩) (by simp) _).setCell (p := ⟨w.heap.size + 1, 1, none⟩) (by simp) _).setCell (p := ⟨w.heap.size + 1, 2, none⟩) (by simp) _
  · have H := Lib.hid (show crashD d keep torn = ⟨broken d keep torn, [], true⟩ by unfold crashD; rw [hf]; rfl)
    have HFm := Lib.hid hf
    have HP := Lib.hid (((formed_iff d).1 hf).2.1)
    have hpl : d.pages.length ≤ 400 := ((formed_iff d).1 hf).1
    clear hf
    go_enter Try.func28, Try.ntmps28
    go_wp2_with fail
    rw [← hC, ← hZ, ← hwb]
    clear hC hZ hwb b2
    refine (rformed_eq (h0.keep b0) _ HFm.out).mono ?_
    rintro e w3 ⟨rfl, b3⟩
    have b03 := below_trans b0 b3
    obtain ⟨y0, y1, y2, -, -, -⟩ := Box3.of (block_keep g0 b3)
    go_wp2_with fail
    refine (rpages_any _ d.pages _ (hp.keep b03) (by omega) (Lib.hid fun p hp => by have := HP.out p hp; omega)).mono ?_
    rintro e w5 ⟨pv, rfl, hO5, b5⟩
    have b35 := below_trans b3 b5
    have hs3 := b3.size
    have hs5 := b5.size
    clear y0 y1 y2
    have b05 := below_trans b0 b35
    have g05 := block_keep g0 b35
    have g15 := block_keep g1 b35
    go_wp2
    go_loopw [8, 9] (fun vo i wr => ∃ (k : Nat), k ≤ d.writes.length ∧ i = .int .i64 k ∧ OwnR wr w3.heap.size vo (stage d keep torn k) ∧ Below w3.heap.size w5 wr) (fun _ i _ => d.writes.length - (intOf i).toNat)
    case atStart => exact ⟨0, Nat.zero_le _, rfl, by rw [stage_zero]; exact hO5, Below.refl _ _⟩
    case round =>
      obtain ⟨k, hk, rfl, hOr, hb⟩ := hrel
      have bw3 : Below w3.heap.size w3 wr := b5.trans hb
      have bw : Below w.heap.size w wr := below_trans b03 bw3
      have g0r : wr.heap[w.heap.size]? = some (.cells #[.slice pa d.pages.length pc, .slice wa d.writes.length wc, .bool d.down] 25 (0, 0)) := (hb.block _ (by omega)).trans g05
      obtain ⟨y0, y1, y2, -, -, -⟩ := Box3.of g0r
      by_cases hlt : k < d.writes.length
      · obtain ⟨b, off, da, dc, rfl, c0, c1, hB⟩ := hw.at_ (List.getElem?_eq_getElem hlt)
        have HM := Lib.hid (((formed_iff d).1 HFm.out).2.2.1 d.writes[k] (List.getElem_mem hlt))
        have HFS := Lib.hid (stage_wide HFm.out keep torn k).1
        have hsr := hb.size
        have d0 := cell_keep bw c0
        have d1 := cell_keep bw c1
        clear c0 c1
        by_cases hlo : (k : Int) < keep
        · have hdd : decide ((k : Int) < keep) = true := decide_eq_true hlo
          have HT := Lib.hid (stage_low (torn := torn) hlt hlo)
          have HLO := Lib.hid hlo
          generalize d.writes[k] = x at *
          clear hlo
          go_wp2_with fail
          refine (exec_x (x := x) hOr (by omega) (fun W hW => hB.keep (bw.trans (hW.mono (by omega)))) HM.out HFS.out).mono ?_
          rintro e w6 ⟨u, rfl, hO6, b6⟩
          go_upto_region 10 with fail
          go_cut [42] from 35 to 41 (fun vt wx => vt = .bool false ∧ w6 = wx)
          case first =>
            have e1 : (keep < 0) = False := eq_false (by have := HLO.out; omega)
            have e3 : ((k : Int) = keep) = False := eq_false (by have := HLO.out; omega)
            go_wp2
            go_meet
            case rel => exact ⟨rfl, rfl⟩
          case rest =>
            obtain ⟨rfl, rfl⟩ := hcut
            go_wp2
            go_roundw
            case rel =>
              refine ⟨k + 1, by omega, by go_num, ?_, hb.trans b6⟩
              rw [HT.out]; exact hO6
            case measure => simp [intOf]; omega
        · have hdd : decide ((k : Int) < keep) = false := decide_eq_false hlo
          have HS := Lib.hid (stage_stay (torn := torn) hlt hlo)
          have HT := Lib.hid (stage_torn (torn := torn) hlt hlo)
          have HLO := Lib.hid hlo
          generalize d.writes[k] = x at *
          clear hlo
          obtain ⟨t, ht⟩ : ∃ t : Bool, t = (decide ((k : Int) = max keep 0) && decide (0 < torn)) := ⟨_, rfl⟩
          go_upto_region 10 with fail
          have HTT := Lib.hid ht
          clear ht
          go_cut [42] from 35 to 41 (fun vt wx => vt = .bool t ∧ wr = wx)
          case first =>
            by_cases h1 : keep < 0
            · have e1 : (keep < 0) = True := eq_true h1
              have HN1 := Lib.hid h1
              clear h1
              by_cases hq : (k : Int) = 0
              all_goals
                have HQ := Lib.hid hq
                first
                  | have e2 : (k = 0) = False := eq_false (by omega)
                  | have e2 : (k = 0) = True := eq_true (by omega)
                clear hq
                go_wp2
                go_meet
                case rel =>
                  refine ⟨?_, rfl⟩
                  rw [HTT.out]
                  have h1 := HN1.out
                  have h2 := HQ.out
                  clear e1 e2
                  congr 1
                  rw [Bool.eq_iff_iff]
                  simp
                  omega
            · have e1 : (keep < 0) = False := eq_false h1
              have HN1 := Lib.hid h1
              clear h1
              by_cases hq : (k : Int) = keep
              all_goals
                have HQ := Lib.hid hq
                first
                  | have e2 : ((k : Int) = keep) = False := eq_false hq
                  | have e2 : ((k : Int) = keep) = True := eq_true hq
                clear hq
                go_wp2
                go_meet
                case rel =>
                  refine ⟨?_, rfl⟩
                  rw [HTT.out]
                  have h1 := HN1.out
                  have h2 := HQ.out
                  clear e1 e2
                  congr 1
                  rw [Bool.eq_iff_iff]
                  simp
                  omega
          case rest =>
            obtain ⟨rfl, rfl⟩ := hcut
            cases t
            · have HR := Lib.hid (HS.out fun ⟨h1, h2⟩ => by simpa [h1, h2] using HTT.out)
              go_wp2
              go_roundw
              case rel => exact ⟨k + 1, by omega, by go_num, by rw [HR.out]; exact hOr, hb⟩
              case measure => simp [intOf]; omega
            · have HTR := Lib.hid (show (k : Int) = max keep 0 ∧ 0 < torn by simpa using HTT.out.symm)
              have HR := Lib.hid (HT.out HTR.out.1 HTR.out.2)
              go_wp2_with fail
              refine (exec_x (x := x) hOr (by omega) (fun W hW => hB.keep (bw.trans (hW.mono (by omega)))) HM.out HFS.out).mono ?_
              rintro e w6 ⟨u, rfl, hO6, b6⟩
              go_wp2
              go_roundw
              case rel =>
                refine ⟨k + 1, by omega, by go_num, ?_, hb.trans b6⟩
                rw [HR.out, show min torn 64 = max 0 (min torn 64) by have := HTR.out.2; omega]; exact hO6
              case measure => simp [intOf]; omega
      · have e : k = d.writes.length := by omega
        subst e
        rw [stage_end] at hOr
        have HFS := Lib.hid (broken_wide HFm.out keep torn)
        generalize broken d keep torn = R at *
        obtain ⟨va, vc, rfl, hvc⟩ := hOr.len
        have g1r : wr.heap[w.heap.size + 1]? = some (.cells #[.slice none 0 0, .slice none 0 0, .bool false] 25 (0, 0)) := (hb.block _ (by omega)).trans g15
        obtain ⟨u0, u1, u2, uf0, uf1, uf2⟩ := Box3.of g1r
        go_wp2
        refine bodyPost_ret (v := .agg #[.slice va R.length vc, .slice none 0 0, .bool true]) (by simp [results, Try.results28, go_sem, u0, u1, u2]) rfl ?_
        refine ⟨_, rfl, ?_, ?_⟩
        · rw [H.out]
          have hlen := HFS.out
          have rF := ((hOr.store (p := ⟨w.heap.size + 1, 0, none⟩) (by simp; omega) (.slice va R.length vc)).store (p := ⟨w.heap.size + 1, 1, none⟩) (by simp; omega) (.slice none 0 0)).store (p := ⟨w.heap.size + 1, 2, none⟩) (by simp; omega) (.bool true)
          exact ⟨_, _, rfl, rF.is (by omega) (fun l hl => by have := hlen.1 l hl; omega), IsWrites.nil _⟩
        · exact ((bw.setCell (p := ⟨w.heap.size + 1, 0, none⟩) (by simp) _).setCell (p := ⟨w.heap.size + 1, 1, none⟩) (by simp) _).setCell (p := ⟨w.heap.size + 1, 2, none⟩) (by simp) _
end Go.Proofs.Ytcembocnkndlhaa
