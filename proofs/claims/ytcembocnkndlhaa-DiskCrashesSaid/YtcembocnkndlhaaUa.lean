/- The laws' helpers: Small. -/
import Derived.Test.YtcembocnkndlhaaRe
namespace Go.Proofs.Ytcembocnkndlhaa
open Go.RowKit
def big (b : List UInt8) : Bool := decide (70 < b.length)
def smallD (d : Dk) : Bool := decide (d.pages.length ≤ 24) && decide (d.writes.length ≤ 24) && !d.pages.any big && !d.writes.any fun x => big x.data
set_option maxHeartbeats 4000000 in
set_option maxRecDepth 100000 in
theorem Small_any (v : Value) (d : Dk) (w : World) (h : IsDisk w v d) :
    Calls Try.prog 18 #[v] w fun e w' => e = .returned (.bool (smallD d)) ∧ Below w.heap.size w w' := by
  obtain ⟨pa, pc, wa, wcp, rfl, hp, hw, m1, m2, m3⟩ := h.shape
  obtain ⟨ps, ws, dn⟩ := d
  dsimp only at *
  have g0 := heap_alloc_new w (.cells #[.slice pa ps.length pc, .slice wa ws.length wcp, .bool dn] 25)
  have b0 := below_new w (.cells #[.slice pa ps.length pc, .slice wa ws.length wcp, .bool dn] 25)
  have hp0 := hp.keep b0
  have hw0 := hw.keep b0
  obtain ⟨F, hF⟩ : ∃ F, smallD ⟨ps, ws, dn⟩ = F := ⟨_, rfl⟩
  have HF := Lib.hid hF
  rw [hF]
  clear hF
  by_cases hl : ps.length ≤ 24
  case neg =>
    have hn : F = false := by rw [← HF.out]; unfold smallD; simp [hl]
    subst hn
    have hd : decide (24 < (ps.length : Int)) = true := decide_eq_true (by omega)
    go_enter Try.func18, Try.ntmps18
    go_wp2
    go_ret
    exact ⟨rfl, b0⟩
  have hd : decide (24 < (ps.length : Int)) = false := decide_eq_false (by omega)
  by_cases hl2 : ws.length ≤ 24
  case neg =>
    have hn : F = false := by rw [← HF.out]; unfold smallD; simp [hl2]
    subst hn
    have hd2 : decide (24 < (ws.length : Int)) = true := decide_eq_true (by omega)
    go_enter Try.func18, Try.ntmps18
    go_wp2
    go_ret
    exact ⟨rfl, b0⟩
  have hd2 : decide (24 < (ws.length : Int)) = false := decide_eq_false (by omega)
  go_enter Try.func18, Try.ntmps18
  go_wp2
  go_loop [3] (fun i => ∃ k : Nat, k ≤ ps.length ∧ i = .int .i64 k ∧ Hid (∀ y ∈ ps.take k, big y = false)) (fun i => ps.length - (intOf i).toNat)
  case atStart => exact ⟨0, Nat.zero_le _, rfl, Lib.hid (by simp)⟩
  case round =>
    obtain ⟨k, hk, rfl, hno⟩ := hrel
    by_cases hlt : k < ps.length
    · obtain ⟨b, off, qa, qc, rfl, hc, hpb⟩ := hp0.at_ (List.getElem?_eq_getElem hlt)
      by_cases hq : ps[k].length ≤ 70
      · have hno' : Hid (∀ y ∈ ps.take (k + 1), big y = false) := Lib.hid (take_all hlt hno.out (by simp [big, hq]))
        have hbq : decide (70 < (ps[k].length : Int)) = false := decide_eq_false (by omega)
        generalize ps[k] = l at *
        have HQ := Lib.hid hq
        clear hq
        go_wp2
        go_round
        case rel => exact ⟨k + 1, by omega, by go_num, hno'⟩
        case measure => simp [intOf]; omega
      · have hn : F = false := by
          rw [← HF.out]; unfold smallD
          have : ps.any big = true := List.any_eq_true.2 ⟨ps[k], List.getElem_mem hlt, by simp [big]; omega⟩
          simp [this]
        subst hn
        have hbq : decide (70 < (ps[k].length : Int)) = true := decide_eq_true (by omega)
        generalize ps[k] = l at *
        go_wp2
        go_ret
        exact ⟨rfl, b0⟩
    · have e : k = ps.length := by omega
      subst e
      have HP := Lib.hid (show ps.any big = false by
        have := hno.out
        rw [List.take_length] at this
        exact List.any_eq_false.2 (by simpa using this))
      go_wp2
      go_loop [4] (fun i => ∃ k : Nat, k ≤ ws.length ∧ i = .int .i64 k ∧ Hid (∀ y ∈ ws.take k, big y.data = false)) (fun i => ws.length - (intOf i).toNat)
      case atStart => exact ⟨0, Nat.zero_le _, rfl, Lib.hid (by simp)⟩
      case round =>
        obtain ⟨k, hk, rfl, hnw⟩ := hrel
        by_cases hlw : k < ws.length
        · obtain ⟨b, off, qa, qc, rfl, c0, c1, hpb⟩ := hw0.at_ (List.getElem?_eq_getElem hlw)
          by_cases h3 : ws[k].data.length ≤ 70
          · have hok := Lib.hid (take_all (p := fun y => big y.data) hlw hnw.out (by simp [big, h3]))
            have hbq : decide (70 < (ws[k].data.length : Int)) = false := decide_eq_false (by omega)
            generalize ws[k] = x at *
            clear h3
            go_wp2
            go_round
            case rel => exact ⟨k + 1, by omega, by go_num, hok⟩
            case measure => simp [intOf]; omega
          · have hn : F = false := by
              rw [← HF.out]; unfold smallD
              have : (ws.any fun x => big x.data) = true := List.any_eq_true.2 ⟨ws[k], List.getElem_mem hlw, by simp [big]; omega⟩
              simp [this]
            subst hn
            have hbq : decide (70 < (ws[k].data.length : Int)) = true := decide_eq_true (by omega)
            generalize ws[k] = x at *
            go_wp2
            go_ret
            exact ⟨rfl, b0⟩
        · have e : k = ws.length := by omega
          subst e
          have hn : F = true := by
            have HW : (ws.any fun x => big x.data) = false := by
              have := hnw.out
              rw [List.take_length] at this
              exact List.any_eq_false.2 (by simpa using this)
            rw [← HF.out]; unfold smallD
            have h6 := HP.out
            simp only [HW, h6]
            simp [hl, hl2]
          subst hn
          go_wp2
          go_ret
          exact ⟨rfl, b0⟩
theorem Small_eq {v : Value} {d : Dk} {w : World} (h : IsDisk w v d) (b : Bool) (hb : smallD d = b) :
    Calls Try.prog 18 #[v] w fun e w' => e = .returned (.bool b) ∧ Below w.heap.size w w' := by
  subst hb; exact Small_any v d w h
end Go.Proofs.Ytcembocnkndlhaa
