/- The reference's walks: WellFormed, failure, Small. -/
import Derived.Test.YtcembocnkndlhaaMem
import Derived.Test.YtcembocnkndlhaaWb
namespace Go.Proofs.Ytcembocnkndlhaa
open Go.RowKit
theorem take_all {α : Type} {L : List α} {p : α → Bool} {k : Nat} (hlt : k < L.length) (h : ∀ y ∈ L.take k, p y = false) (hq : p L[k] = false) : ∀ y ∈ L.take (k + 1), p y = false := by
  intro y hy
  rw [List.take_succ_eq_append_getElem hlt, List.mem_append] at hy
  rcases hy with hy | hy
  · exact h y hy
  · have : y = L[k] := by simpa using hy
    rw [this]; exact hq
set_option maxHeartbeats 4000000 in
set_option maxRecDepth 100000 in
theorem rformed_any (v : Value) (d : Dk) (w : World) (h : IsDisk w v d) :
    Calls Try.prog 38 #[v] w fun e w' => e = .returned (.bool (formed d)) ∧ Below w.heap.size w w' := by
  obtain ⟨pa, pc, wa, wcp, rfl, hp, hw, m1, m2, m3⟩ := h.shape
  obtain ⟨ps, ws, dn⟩ := d
  dsimp only at *
  have g0 := heap_alloc_new w (.cells #[.slice pa ps.length pc, .slice wa ws.length wcp, .bool dn] 25)
  have b0 := below_new w (.cells #[.slice pa ps.length pc, .slice wa ws.length wcp, .bool dn] 25)
  have hp0 := hp.keep b0
  have hw0 := hw.keep b0
  obtain ⟨F, hF⟩ : ∃ F, formed ⟨ps, ws, dn⟩ = F := ⟨_, rfl⟩
  have HF := Lib.hid hF
  rw [hF]
  clear hF
  by_cases hl : ps.length ≤ 400
  case neg =>
    have hn : F = false := by rw [← HF.out]; unfold formed; simp [hl]
    subst hn
    have hd : decide (400 < (ps.length : Int)) = true := decide_eq_true (by omega)
    go_enter Try.func38, Try.ntmps38
    go_wp2
    go_ret
    exact ⟨rfl, b0⟩
  have hd : decide (400 < (ps.length : Int)) = false := decide_eq_false (by omega)
  by_cases hdw : dn = true ∧ 0 < ws.length
  case pos =>
    obtain ⟨rfl, hw1⟩ := hdw
    have hn : F = false := by rw [← HF.out]; unfold formed; simp [hw1]
    subst hn
    have hd2 : decide (0 < (ws.length : Int)) = true := decide_eq_true (by omega)
    go_enter Try.func38, Try.ntmps38
    go_wp2
    go_ret
    exact ⟨rfl, b0⟩
  have HDW := Lib.hid (show (dn && decide (0 < ws.length)) = false by cases dn; rfl; simp at hdw; simp [hdw])
  have hdn : dn = false ∨ (dn = true ∧ ws.length = 0) := by
    cases dn
    · exact .inl rfl
    · exact .inr ⟨rfl, by simp at hdw; simp [hdw]⟩
  clear hdw
  have hgo : Calls Try.prog 38 #[.agg #[.slice pa ps.length pc, .slice wa ws.length wcp, .bool dn]] w fun e w' => e = .returned (.bool F) ∧ Below w.heap.size w w' := by
    rcases hdn with hdn | ⟨hdn, hw1⟩
    all_goals
      first
        | (have hd2 : decide (0 < (ws.length : Int)) = false := decide_eq_false (by omega); have hd3 : decide (0 < ws.length) = false := decide_eq_false (by omega))
        | skip
      try clear hw1
      subst hdn
      go_enter Try.func38, Try.ntmps38
      go_wp2
      go_loop [3] (fun i => ∃ k : Nat, k ≤ ps.length ∧ i = .int .i64 k ∧ Hid (∀ y ∈ ps.take k, badPage y = false)) (fun i => ps.length - (intOf i).toNat)
      case atStart => exact ⟨0, Nat.zero_le _, rfl, Lib.hid (by simp)⟩
      case round =>
        obtain ⟨k, hk, rfl, hno⟩ := hrel
        by_cases hlt : k < ps.length
        · obtain ⟨b, off, qa, qc, rfl, hc, hpb⟩ := hp0.at_ (List.getElem?_eq_getElem hlt)
          by_cases hq : ps[k].length = 64
          · have hno' : Hid (∀ y ∈ ps.take (k + 1), badPage y = false) := Lib.hid (take_all hlt hno.out (by simp [badPage, hq]))
            have hbq : ((ps[k].length : Int) != 64) = false := by rw [bne_eq_false_iff_eq]; omega
            generalize ps[k] = l at *
            have HQ := Lib.hid hq
            clear hq
            go_wp2
            go_round
            case rel => exact ⟨k + 1, by omega, by go_num, hno'⟩
            case measure => simp [intOf]; omega
          · have hn : F = false := by
              rw [← HF.out]; unfold formed
              have : ps.any badPage = true := List.any_eq_true.2 ⟨ps[k], List.getElem_mem hlt, by simp [badPage, hq]⟩
              simp [this]
            subst hn
            have hbq : ((ps[k].length : Int) != 64) = true := by rw [bne_iff_ne]; omega
            generalize ps[k] = l at *
            go_wp2
            go_ret
            exact ⟨rfl, b0⟩
        · have e : k = ps.length := by omega
          subst e
          have HP := Lib.hid (show ps.any badPage = false by
            have := hno.out
            rw [List.take_length] at this
            exact List.any_eq_false.2 (by simpa using this))
          go_wp2
          go_loop [4] (fun i => ∃ k : Nat, k ≤ ws.length ∧ i = .int .i64 k ∧ Hid (∀ y ∈ ws.take k, odd y = false)) (fun i => ws.length - (intOf i).toNat)
          case atStart => exact ⟨0, Nat.zero_le _, rfl, Lib.hid (by simp)⟩
          case round =>
            obtain ⟨k, hk, rfl, hnw⟩ := hrel
            by_cases hlw : k < ws.length
            · obtain ⟨b, off, qa, qc, rfl, c0, c1, hpb⟩ := hw0.at_ (List.getElem?_eq_getElem hlw)
              have hbad : odd ws[k] = true → F = false := fun ho => by
                rw [← HF.out]; unfold formed
                have : ws.any odd = true := List.any_eq_true.2 ⟨ws[k], List.getElem_mem hlw, ho⟩
                simp [this]
              have hgood : odd ws[k] = false → Hid (∀ y ∈ ws.take (k + 1), odd y = false) := fun ho => Lib.hid (take_all hlw hnw.out ho)
              generalize ws[k] = x at *
              by_cases h1 : x.at_ < 0
              · have hn := hbad (by simp [odd, h1])
                subst hn
                have hdd : decide (x.at_ < 0) = true := decide_eq_true h1
                clear hbad hgood
                go_wp2
                go_ret
                exact ⟨rfl, b0⟩
              · have hdd : decide (x.at_ < 0) = false := decide_eq_false h1
                by_cases h2 : x.at_ ≥ 400
                · have hn := hbad (by simp [odd, h2])
                  subst hn
                  have hdd2 : decide (400 ≤ x.at_) = true := decide_eq_true h2
                  clear hbad hgood
                  go_wp2
                  go_ret
                  exact ⟨rfl, b0⟩
                · have hdd2 : decide (400 ≤ x.at_) = false := decide_eq_false h2
                  by_cases h3 : x.data.length = 64
                  · have hok := hgood (by simp [odd, badPage, h3]; omega)
                    have hbq : ((x.data.length : Int) != 64) = false := by rw [bne_eq_false_iff_eq]; omega
                    clear hbad hgood h3
                    go_wp2
                    go_round
                    case rel => exact ⟨k + 1, by omega, by go_num, hok⟩
                    case measure => simp [intOf]; omega
                  · have hn := hbad (by simp [odd, badPage, h3])
                    subst hn
                    have hbq : ((x.data.length : Int) != 64) = true := by rw [bne_iff_ne]; omega
                    clear hbad hgood
                    go_wp2
                    go_ret
                    exact ⟨rfl, b0⟩
            · have e : k = ws.length := by omega
              subst e
              have hn : F = true := by
                have HW : ws.any odd = false := by
                  have := hnw.out
                  rw [List.take_length] at this
                  exact List.any_eq_false.2 (by simpa using this)
                rw [← HF.out]; unfold formed
                have h5 := HDW.out
                have h6 := HP.out
                simp only [HW, h6]
                simp at h5
                simp [hl, h5]
              subst hn
              go_wp2
              go_ret
              exact ⟨rfl, b0⟩
  exact hgo
end Go.Proofs.Ytcembocnkndlhaa
