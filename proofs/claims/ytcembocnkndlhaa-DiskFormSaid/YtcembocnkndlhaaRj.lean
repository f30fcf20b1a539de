/- The reference's walk: Read. -/
import Derived.Test.YtcembocnkndlhaaRc
import Derived.Test.YtcembocnkndlhaaRe
import Derived.Test.YtcembocnkndlhaaWl
namespace Go.Proofs.Ytcembocnkndlhaa
open Go.RowKit
set_option maxHeartbeats 4000000 in
set_option maxRecDepth 100000 in
theorem rRead_any (v : Value) (d : Dk) (k : Int) (w : World) (h : IsDisk w v d) : Calls Try.prog 25 #[v, .int .i64 k] w (BytesErr (readD d k) w) := by
  have h0 := h
  obtain ⟨pa, pc, wa, wc, rfl, hp, hw, m1, m2, m3⟩ := h.shape
  obtain ⟨C, hC⟩ : ∃ C, C = Obj.cells #[.slice pa d.pages.length pc, .slice wa d.writes.length wc, .bool d.down] 25 := ⟨_, rfl⟩
  obtain ⟨wb, hwb⟩ : ∃ x : World, x = w.alloc C := ⟨_, rfl⟩
  have b0 : Below w.heap.size w wb := by subst hwb; exact below_new _ _
  have g0 : wb.heap[w.heap.size]? = some (.cells #[.slice pa d.pages.length pc, .slice wa d.writes.length wc, .bool d.down] 25 (0, 0)) := by
    subst hC hwb; exact heap_alloc_new _ _
  have hsb : wb.heap.size = w.heap.size + 1 := by subst hwb; simp
  by_cases hf : failure d k = 0
  · have H := Lib.hid (show readD d k = (look d k, 0) by unfold readD; rw [if_neg (by simp [hf])])
    have hform := (failure_zero hf).1
    obtain ⟨-, -, hk0, hk1⟩ := failure_zero hf
    have HF := Lib.hid hf
    have HM := Lib.hid (((formed_iff d).1 hform).2.2.1)
    have HP := Lib.hid (((formed_iff d).1 hform).2.1)
    clear hf hform
    go_enter Try.func25, Try.ntmps25
    go_wp2_with fail
    rw [← hC, ← hwb]
    clear hC hwb
    refine (rfailure_eq (h0.keep b0) _ HF.out).mono ?_
    rintro e w3 ⟨rfl, b3⟩
    have b03 := below_trans b0 b3
    have g03 := block_keep g0 b3
    obtain ⟨y0, y1, y2, -, -, -⟩ := Box3.of g03
    have hh0 := h0.keep b03
    have hp3 := hp.keep b03
    have hw3 := hw.keep b03
    clear h0 hp hw
    go_wp2
    go_loopw [7] (fun i wr => wr = w3 ∧ ∃ (j : Nat), j ≤ d.writes.length ∧ i = .int .i64 ((j : Int) - 1) ∧ Hid (∀ m (hm : m < d.writes.length), j ≤ m → d.writes[m].at_ ≠ k)) (fun i _ => (intOf i + 1).toNat)
    case atStart => exact ⟨rfl, d.writes.length, Nat.le_refl _, by go_num, Lib.hid fun m hm h => by omega⟩
    case round =>
      obtain ⟨rfl, j, hj, rfl, hn⟩ := hrel
      cases j with
      | zero =>
        have hlk := look_miss (d := d) (k := k) fun m hm => hn.out m hm (Nat.zero_le _)
        obtain ⟨kn, rfl⟩ : ∃ n : Nat, k = (n : Int) := ⟨k.toNat, by omega⟩
        have HLK := Lib.hid hlk
        clear hlk
        rw [show ((0 : Nat) : Int) - 1 = -1 by omega]
        by_cases hlt : kn < d.pages.length
        · obtain ⟨b, off, da, dc, rfl, c0, hB⟩ := hp3.at_ (List.getElem?_eq_getElem hlt)
          have hdl := HP.out d.pages[kn] (List.getElem_mem hlt)
          have hdd : decide ((kn : Int) < (d.pages.length : Int)) = true := decide_eq_true (by omega)
          have hE := Lib.hid (show look d kn = full d.pages[kn] by rw [HLK.out, if_pos (by omega)]; simp [List.getD_eq_getElem?_getD, List.getElem?_eq_getElem hlt])
          generalize d.pages[kn] = x at *
          have HDL := Lib.hid hdl
          clear hdl
          go_wp2_with fail
          refine rFull_ts hB (by have := HDL.out; omega) ?_
          intro g c w5 hF bF
          go_wp2
          refine bodyPost_ret (v := .tuple #[.slice (some ⟨g, 0, none⟩) (rfull x).length c, .int .i64 0]) (by simp [results, Try.results25, go_sem]) rfl ?_
          refine ⟨_, by rw [H.out], ?_, below_trans b03 bF⟩
          rw [H.out, hE.out, full_rfull (by have := HDL.out; omega)]
          exact OwnB.is hF (by have := HDL.out; simp [rfull, zeros]; omega)
        · have hdd : decide ((kn : Int) < (d.pages.length : Int)) = false := decide_eq_false (by omega)
          have hE := Lib.hid (show look d kn = full [] by rw [HLK.out, if_neg (by omega)])
          go_wp2_with fail
          refine rFull_ts (IsBytes.nil _) (by simp) ?_
          intro g c w5 hF bF
          go_wp2
          refine bodyPost_ret (v := .tuple #[.slice (some ⟨g, 0, none⟩) (rfull []).length c, .int .i64 0]) (by simp [results, Try.results25, go_sem]) rfl ?_
          refine ⟨_, by rw [H.out], ?_, below_trans b03 bF⟩
          rw [H.out, hE.out, full_rfull (by simp)]
          exact OwnB.is hF (by simp [rfull, zeros])
      | succ m =>
        rw [show ((m + 1 : Nat) : Int) - 1 = (m : Int) by omega]
        obtain ⟨b, off, da, dc, rfl, c0, c1, hB⟩ := hw3.at_ (List.getElem?_eq_getElem (show m < d.writes.length by omega))
        have hM := HM.out d.writes[m] (List.getElem_mem (show m < d.writes.length by omega))
        by_cases ha : d.writes[m].at_ = k
        · have hE := Lib.hid (look_hit (d := d) (k := k) (show m < d.writes.length by omega) ha fun j hj h => hn.out j hj h)
          have hdd : (d.writes[m].at_ == k) = true := by simp [ha]
          have HA := Lib.hid ha
          generalize d.writes[m] = x at *
          have HX := Lib.hid hM
          clear hM ha
          go_wp2_with fail
          refine rFull_ts hB (by have := HX.out; omega) ?_
          intro g c w5 hF bF
          go_wp2
          refine bodyPost_ret (v := .tuple #[.slice (some ⟨g, 0, none⟩) (rfull x.data).length c, .int .i64 0]) (by simp [results, Try.results25, go_sem]) rfl ?_
          refine ⟨_, by rw [H.out], ?_, below_trans b03 bF⟩
          rw [H.out, hE.out, full_rfull (by have := HX.out; omega)]
          exact OwnB.is hF (by have := HX.out; simp [rfull, zeros]; omega)
        · have hdd : (d.writes[m].at_ == k) = false := by simp [ha]
          have HA := Lib.hid ha
          have HN := Lib.hid (show ∀ j (hj : j < d.writes.length), m ≤ j → d.writes[j].at_ ≠ k from fun j hj h => by
            rcases Nat.lt_or_ge m j with h' | h'
            · exact hn.out j hj h'
            · obtain rfl : m = j := by omega
              exact ha)
          clear ha hM
          generalize d.writes[m] = x at *
          clear hn
          go_wp2
          go_roundw
          case rel => exact ⟨trivial, m, by omega, by go_num, HN⟩
          case measure => simp [intOf]
  · have H := Lib.hid (show readD d k = ([], failure d k) by unfold readD; rw [if_pos hf])
    have hne := ne_beq hf
    have hbq : (failure d k != 0) = true := by simpa using hf
    generalize hR : failure d k = R at *
    have HR := Lib.hid hR
    clear hR
    go_enter Try.func25, Try.ntmps25
    go_wp2_with fail
    rw [← hC, ← hwb]
    refine (rfailure_eq (h0.keep b0) _ HR.out).mono ?_
    rintro e w3 ⟨rfl, b3⟩
    go_wp2
    refine bodyPost_ret (v := .tuple #[.slice none 0 0, .int .i64 R]) (by simp [results, Try.results25, go_sem]) rfl ?_
    exact ⟨_, by rw [H.out], by rw [H.out]; exact IsBytes.nil _, below_trans b0 b3⟩
end Go.Proofs.Ytcembocnkndlhaa
