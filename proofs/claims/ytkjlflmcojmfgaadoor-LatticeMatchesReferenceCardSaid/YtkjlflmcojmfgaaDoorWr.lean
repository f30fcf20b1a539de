/- The walk of the reference's names. -/
import Derived.Test.YtkjlflmcojmfgaaDoorMat
import Derived.Test.YtkjlflmcojmfgaaDoorTwo
namespace Go.Proofs.YtkjlflmcojmfgaaDoor
open Go.RowKit
theorem args_name {L : Ltc} (h : nameOk L.name = false) : argsOk L = false := by unfold argsOk; rw [h]; simp
theorem args_few {L : Ltc} (h : ¬ 1 ≤ L.elems.length) : argsOk L = false := by unfold argsOk; rw [decide_eq_false h]; simp
theorem args_many {L : Ltc} (h : ¬ L.elems.length ≤ 8) : argsOk L = false := by unfold argsOk; rw [decide_eq_false h]; simp
theorem args_covers {L : Ltc} (h : ¬ L.covers.length ≤ 64) : argsOk L = false := by unfold argsOk; rw [decide_eq_false h]; simp
theorem args_elem {L : Ltc} {x : Nm} (hx : x ∈ L.elems) (h : nameOk x = false) : argsOk L = false := by
  unfold argsOk
  have : L.elems.all nameOk = false := List.all_eq_false.2 ⟨x, hx, by simp [h]⟩
  rw [this]; simp
theorem args_pair {L : Ltc} {c : Int × Int} (hc : c ∈ L.covers) (h : inR L.elems.length c = false) : argsOk L = false := by
  unfold argsOk
  have : L.covers.all (inR L.elems.length) = false := List.all_eq_false.2 ⟨c, hc, by simp [h]⟩
  rw [this]; simp
theorem names_bad {L : Ltc} (h : argsOk L = false) : namesL L = 1 := if_pos h
theorem names_dup {L : Ltc} (h : argsOk L = true) (hd : dupN L.elems = true) : namesL L = 5 := by unfold namesL; rw [if_neg (by simp [h]), if_pos hd]
theorem names_ok {L : Ltc} (h : argsOk L = true) (hd : dupN L.elems = false) : namesL L = 0 := by unfold namesL; rw [if_neg (by simp [h]), if_neg (by simp [hd])]
theorem inR_at {n : Nat} {c1 c2 : Int} : inR n (c1, c2) = (decide (0 ≤ c1 ∧ c1 < n) && decide (0 ≤ c2 ∧ c2 < n)) := by
  unfold inR; rw [← Bool.decide_and, decide_eq_decide]; exact ⟨fun h => ⟨⟨h.1, h.2.1⟩, h.2.2.1, h.2.2.2⟩, fun h => ⟨h.1.1, h.1.2, h.2.1, h.2.2⟩⟩
theorem in_ts {v : Value} {L : Ltc} {a : Int} {b : Bool} {w : World} {Q : Ending → World → Prop} (h : IsLtc w v L) (hb : Hid (decide (0 ≤ a ∧ a < L.elems.length) = b)) (k : ∀ w', Below w.heap.size w w' → Q (.returned (.bool b)) w') : Calls Tryd.prog 37 #[v, .int .i64 a] w Q :=
  (In_any v L a w h).mono fun e w' ⟨he, hw⟩ => by subst he; rw [hb.out]; exact k w' hw
set_option maxHeartbeats 8000000 in
set_option maxRecDepth 100000 in
theorem names_ref (v : Value) (L : Ltc) (w : World) (h : IsLtc w v L) (hK : KeysAt w 1) : Calls Tryd.prog 31 #[v] w fun e w' => e = .returned (.int .i64 (namesL L)) ∧ Below w.heap.size w w' := by
  have h0 := h
  obtain ⟨ea, ec, ca, cc, rfl, -, -, m1, m2, m3⟩ := h.shape
  have hNE := (h0.sides).1
  have hCO := (h0.sides).2
  have g0 := heap_alloc_new w (.cells #[.string L.name.1, .slice ea L.elems.length ec, .slice ca L.covers.length cc, .int .i64 L.at_] 25)
  have b0 := below_new w (.cells #[.string L.name.1, .slice ea L.elems.length ec, .slice ca L.covers.length cc, .int .i64 L.at_] 25)
  obtain ⟨wb, hwb⟩ : ∃ x : World, x = w.alloc (.cells #[.string L.name.1, .slice ea L.elems.length ec, .slice ca L.covers.length cc, .int .i64 L.at_] 25) := ⟨_, rfl⟩
  rw [← hwb] at g0 b0
  obtain ⟨y0, y1, y2, y3⟩ := Box4.of g0
  cases hnm : nameOk L.name
  · have HNM := Lib.hid hnm
    have HF := Lib.hid (names_bad (args_name hnm))
    clear hnm
    go_enter Tryd.func31, Tryd.ntmps31
    go_wp2_with fail
    rw [← hwb]
    clear hwb
    refine (Name_any L.name _ (hK.keep (keeps_below b0))).mono ?_
    rintro e w3 ⟨rfl, rfl⟩
    rw [HNM.out]
    go_wp2
    go_ret
    exact ⟨ret_int HF.out.symm, b0⟩
  have HNM := Lib.hid hnm
  clear hnm
  by_cases h1 : 1 ≤ L.elems.length
  case neg =>
    have HF := Lib.hid (names_bad (args_few h1))
    have q1 : decide ((L.elems.length : Int) < 1) = true := decide_eq_true (by omega)
    go_enter Tryd.func31, Tryd.ntmps31
    go_wp2_with fail
    rw [← hwb]
    clear hwb
    refine (Name_any L.name _ (hK.keep (keeps_below b0))).mono ?_
    rintro e w3 ⟨rfl, rfl⟩
    rw [HNM.out]
    go_wp2
    go_ret
    exact ⟨ret_int HF.out.symm, b0⟩
  have q1 : decide ((L.elems.length : Int) < 1) = false := decide_eq_false (by omega)
  by_cases h2 : L.elems.length ≤ 8
  case neg =>
    have HF := Lib.hid (names_bad (args_many h2))
    have q2 : decide (8 < (L.elems.length : Int)) = true := decide_eq_true (by omega)
    go_enter Tryd.func31, Tryd.ntmps31
    go_wp2_with fail
    rw [← hwb]
    clear hwb
    refine (Name_any L.name _ (hK.keep (keeps_below b0))).mono ?_
    rintro e w3 ⟨rfl, rfl⟩
    rw [HNM.out]
    go_wp2
    go_ret
    exact ⟨ret_int HF.out.symm, b0⟩
  have q2 : decide (8 < (L.elems.length : Int)) = false := decide_eq_false (by omega)
  by_cases h3 : L.covers.length ≤ 64
  case neg =>
    have HF := Lib.hid (names_bad (args_covers h3))
    have q3 : decide (64 < (L.covers.length : Int)) = true := decide_eq_true (by omega)
    go_enter Tryd.func31, Tryd.ntmps31
    go_wp2_with fail
    rw [← hwb]
    clear hwb
    refine (Name_any L.name _ (hK.keep (keeps_below b0))).mono ?_
    rintro e w3 ⟨rfl, rfl⟩
    rw [HNM.out]
    go_wp2
    go_ret
    exact ⟨ret_int HF.out.symm, b0⟩
  have q3 : decide (64 < (L.covers.length : Int)) = false := decide_eq_false (by omega)
  go_enter Tryd.func31, Tryd.ntmps31
  go_wp2_with fail
  rw [← hwb]
  clear hwb
  refine (Name_any L.name _ (hK.keep (keeps_below b0))).mono ?_
  rintro e w3 ⟨rfl, rfl⟩
  rw [HNM.out]
  go_upto_region 3 with fail
  clear y0 y1 y2 y3 q1 q2 q3
  go_wp2
  go_loopw [3] (fun i wr => ∃ k : Nat, k ≤ L.elems.length ∧ i = .int .i64 k ∧ Hid (∀ j x, j < k → L.elems[j]? = some x → nameOk x = true) ∧ Below wb.heap.size wb wr) (fun i _ => L.elems.length - (intOf i).toNat)
  case atStart => exact ⟨0, Nat.zero_le _, rfl, Lib.hid fun _ _ h => by omega, Below.refl _ _⟩
  case round =>
    obtain ⟨k, hk, rfl, HN, bR⟩ := hrel
    obtain ⟨wo, rfl⟩ : ∃ wo : World, wo = wr := ⟨_, rfl⟩
    obtain ⟨y0, y1, y2, y3⟩ := Box4.of (block_keep g0 bR)
    by_cases hlt : k < L.elems.length
    · have hd : decide (k < L.elems.length) = true := decide_eq_true hlt
      obtain ⟨b1, of1, hce, hc⟩ := hNE.at_ (List.getElem?_eq_getElem hlt)
      cases hce
      have HG := Lib.hid (List.getElem?_eq_getElem hlt)
      have HM := Lib.hid (List.getElem_mem hlt)
      replace hc := cell_keep (below_trans b0 bR) hc
      generalize L.elems[k] = x at *
      have hkI : (k : Int) < (L.elems.length : Int) := by omega
      have hk0 : (0 : Int) ≤ (k : Int) := by omega
      go_wp2_with fail
      refine (Name_any x _ (hK.keep (keeps_below (below_trans b0 bR)))).mono ?_
      rintro e w3 ⟨rfl, rfl⟩
      cases hx : nameOk x
      · have HF := Lib.hid (names_bad (args_elem HM.out hx))
        clear hx
        go_wp2
        go_ret
        exact ⟨ret_int HF.out.symm, below_trans b0 bR⟩
      · have HX := Lib.hid hx
        clear hx
        go_wp2
        go_roundw
        case rel =>
          exact ⟨k + 1, by omega, by go_num, Lib.hid fun j y hj hy => by
            rcases Nat.lt_or_ge j k with h | h
            · exact HN.out j y h hy
            · obtain rfl : j = k := by omega
              obtain rfl := Option.some.inj (HG.out.symm.trans hy)
              exact HX.out, bR⟩
        case measure => simp [intOf]; omega
    · have e : k = L.elems.length := by omega
      subst e
      have hd : decide (L.elems.length < L.elems.length) = false := decide_eq_false hlt
      have HNA := Lib.hid (show ∀ x ∈ L.elems, nameOk x = true from fun x hx => by obtain ⟨j, hj, rfl⟩ := List.mem_iff_getElem.1 hx; exact HN.out j _ hj (List.getElem?_eq_getElem hj))
      clear HN
      go_upto_region 8 with fail
      clear y0 y1 y2 y3 hd
      go_wp2
      go_loopw [4] (fun i wr => ∃ k : Nat, k ≤ L.covers.length ∧ i = .int .i64 k ∧ Hid (∀ j c, j < k → L.covers[j]? = some c → inR L.elems.length c = true) ∧ Below wb.heap.size wb wr) (fun i _ => L.covers.length - (intOf i).toNat)
      case atStart => exact ⟨0, Nat.zero_le _, rfl, Lib.hid fun _ _ h => by omega, bR⟩
      case round =>
        clear bR
        obtain ⟨k, hk, rfl, HN, bR⟩ := hrel
        obtain ⟨wo, rfl⟩ : ∃ wo : World, wo = wr := ⟨_, rfl⟩
        obtain ⟨y0, y1, y2, y3⟩ := Box4.of (block_keep g0 bR)
        by_cases hlt : k < L.covers.length
        · have hd : decide (k < L.covers.length) = true := decide_eq_true hlt
          obtain ⟨b1, of1, hce, hc1, hc2⟩ := hCO.at_ (List.getElem?_eq_getElem hlt)
          cases hce
          have HG := Lib.hid (List.getElem?_eq_getElem hlt)
          have HM := Lib.hid (List.getElem_mem hlt)
          generalize L.covers[k] = c at *
          obtain ⟨c1, c2⟩ := c
          dsimp only at hc1 hc2
          have hkI : (k : Int) < (L.covers.length : Int) := by omega
          have hk0 : (0 : Int) ≤ (k : Int) := by omega
          have HIR := Lib.hid (inR_at (n := L.elems.length) (c1 := c1) (c2 := c2))
          obtain ⟨x1, hx1⟩ : ∃ x, decide (0 ≤ c1 ∧ c1 < (L.elems.length : Int)) = x := ⟨_, rfl⟩
          obtain ⟨x2, hx2⟩ : ∃ x, decide (0 ≤ c2 ∧ c2 < (L.elems.length : Int)) = x := ⟨_, rfl⟩
          have HX1 := Lib.hid hx1
          have HX2 := Lib.hid hx2
          clear hx1 hx2
          have HS : ∀ W, Below wb.heap.size wb W → (fun w' => w'.cell? ⟨w.heap.size, 0, none⟩ = some (.string L.name.1) ∧ w'.cell? ⟨w.heap.size, 1, none⟩ = some (.slice ea L.elems.length ec) ∧ w'.cell? ⟨w.heap.size, 2, none⟩ = some (.slice (some ⟨b1, of1, none⟩) L.covers.length cc) ∧ w'.cell? ⟨w.heap.size, 3, none⟩ = some (.int .i64 L.at_) ∧ w'.cell? ⟨b1, of1 + k * 2, none⟩ = some (.int .i64 c1) ∧ w'.cell? ⟨b1, of1 + k * 2 + 1, none⟩ = some (.int .i64 c2)) W := fun W hW => ⟨(Box4.of (block_keep g0 hW)).c0, (Box4.of (block_keep g0 hW)).c1, (Box4.of (block_keep g0 hW)).c2, (Box4.of (block_keep g0 hW)).c3, cell_keep (below_trans b0 hW) hc1, cell_keep (below_trans b0 hW) hc2⟩
          have HAL := Lib.hid (fun W (hW : Below wb.heap.size wb W) => (h0.keep (keeps_below (below_trans b0 hW)) : IsLtc W _ L))
          go_upto_region 11 with fail
          clear y0 y1 y2 y3
          go_cut [69] from 43 to 69 (fun vt wx => vt = .bool (!(x1 && x2)) ∧ Below wb.heap.size wb wx)
          case first =>
            cases x1
            · skip
              refine wp_region_noPanic ?_
              refine wp_region_late (fun w' => w'.cell? ⟨w.heap.size, 0, none⟩ = some (.string L.name.1) ∧ w'.cell? ⟨w.heap.size, 1, none⟩ = some (.slice ea L.elems.length ec) ∧ w'.cell? ⟨w.heap.size, 2, none⟩ = some (.slice (some ⟨b1, of1, none⟩) L.covers.length cc) ∧ w'.cell? ⟨w.heap.size, 3, none⟩ = some (.int .i64 L.at_) ∧ w'.cell? ⟨b1, of1 + k * 2, none⟩ = some (.int .i64 c1) ∧ w'.cell? ⟨b1, of1 + k * 2 + 1, none⟩ = some (.int .i64 c2)) 20 (by kernel_rfl) (HS _ (below_drew' bR)) (fun hHeld => ?_)
              refine any_take (by kernel_rfl) (i := 0) (oi := _) (v := ?_) rfl rfl (by kernel_rfl) (by kernel_rfl) (by kernel_rfl) (fun _ _ _ h => h) (Or.inl ⟨by rfl, ?_⟩) hHeld ?_
              rotate_left
              · intro w' hSw; try dsimp only at hSw
                go_simp
                try with_reducible rfl
              try simp only [puts, gets]
              refine any_take (by kernel_rfl) (i := 1) (oi := _) (v := ?_) rfl rfl (by kernel_rfl) (by kernel_rfl) (by kernel_rfl) (fun _ _ _ h => h) (Or.inl ⟨by rfl, ?_⟩) hHeld ?_
              rotate_left
              · intro w' hSw; try dsimp only at hSw
                go_simp
                try with_reducible rfl
              try simp only [puts, gets]
              refine any_take (by kernel_rfl) (i := 2) (oi := _) (v := ?_) rfl rfl (by kernel_rfl) (by kernel_rfl) (by kernel_rfl) (fun _ _ _ h => h) (Or.inl ⟨by rfl, ?_⟩) hHeld ?_
              rotate_left
              · intro w' hSw; try dsimp only at hSw
                go_simp
                try with_reducible rfl
              try simp only [puts, gets]
              refine any_take (by kernel_rfl) (i := 3) (oi := _) (v := ?_) rfl rfl (by kernel_rfl) (by kernel_rfl) (by kernel_rfl) (fun _ _ _ h => h) (Or.inl ⟨by rfl, ?_⟩) hHeld ?_
              rotate_left
              · intro w' hSw; try dsimp only at hSw
                go_simp
                try with_reducible rfl
              try simp only [puts, gets]
              refine any_take (by kernel_rfl) (i := 4) (oi := _) (v := ?_) rfl rfl (by kernel_rfl) (by kernel_rfl) (by kernel_rfl) (fun _ _ _ h => h) (Or.inl ⟨by rfl, ?_⟩) hHeld ?_
              rotate_left
              · intro w' hSw; try dsimp only at hSw
                go_simp
                try with_reducible rfl
              try simp only [puts, gets]
              refine any_take (by kernel_rfl) (i := 5) (oi := _) (v := ?_) rfl rfl (by kernel_rfl) (by kernel_rfl) (by kernel_rfl) (fun _ _ _ h => h) (Or.inl ⟨by rfl, ?_⟩) hHeld ?_
              rotate_left
              · intro w' hSw; try dsimp only at hSw
                go_simp
                try with_reducible rfl
              try simp only [puts, gets]
              refine any_take (by kernel_rfl) (i := 6) (oi := _) (v := ?_) rfl rfl (by kernel_rfl) (by kernel_rfl) (by kernel_rfl) (fun _ _ _ h => h) (Or.inl ⟨by rfl, ?_⟩) hHeld ?_
              rotate_left
              · intro w' hSw; try dsimp only at hSw
                go_simp
                try with_reducible rfl
              try simp only [puts, gets]
              refine any_next (i := 7) (by kernel_rfl) rfl rfl (fun K hK => ?_)
              go_simp
              go_at_call 37
              refine in_ts (HAL.out _ (below_drew' bR)) HX1 ?_
              intro wq1 bq1
              replace bq1 : Below wb.heap.size wb wq1 := below_trans bR (below_undrew bq1)
              refine hK.out _ _ ?_ (fun hHeld => ?_)
              · exact HS _ bq1
              clear hK K
              try simp only [puts, gets]
              refine any_take (by kernel_rfl) (i := 8) (oi := _) (v := ?_) rfl rfl (by kernel_rfl) (by kernel_rfl) (by kernel_rfl) (fun _ _ _ h => h) (Or.inl ⟨by rfl, ?_⟩) hHeld ?_
              rotate_left
              · intro w' hSw; try dsimp only at hSw
                go_simp
                try with_reducible rfl
              try simp only [puts, gets]
              refine any_take (by kernel_rfl) (i := 9) (oi := _) (v := ?_) rfl rfl (by kernel_rfl) (by kernel_rfl) (by kernel_rfl) (fun _ _ _ h => h) (Or.inl ⟨by rfl, ?_⟩) hHeld ?_
              rotate_left
              · intro w' hSw; try dsimp only at hSw
                go_simp
                try with_reducible rfl
              try simp only [puts, gets]
              refine any_take (by kernel_rfl) (i := 10) (oi := _) (v := undef) rfl rfl (by kernel_rfl) (by kernel_rfl) (by kernel_rfl) (fun _ _ _ h => h) (Or.inr ⟨by rfl, rfl⟩) hHeld ?_
              try simp only [puts, gets]
              refine any_take (by kernel_rfl) (i := 11) (oi := _) (v := undef) rfl rfl (by kernel_rfl) (by kernel_rfl) (by kernel_rfl) (fun _ _ _ h => h) (Or.inr ⟨by rfl, rfl⟩) hHeld ?_
              try simp only [puts, gets]
              refine any_take (by kernel_rfl) (i := 12) (oi := _) (v := undef) rfl rfl (by kernel_rfl) (by kernel_rfl) (by kernel_rfl) (fun _ _ _ h => h) (Or.inr ⟨by rfl, rfl⟩) hHeld ?_
              try simp only [puts, gets]
              refine any_take (by kernel_rfl) (i := 13) (oi := _) (v := undef) rfl rfl (by kernel_rfl) (by kernel_rfl) (by kernel_rfl) (fun _ _ _ h => h) (Or.inr ⟨by rfl, rfl⟩) hHeld ?_
              try simp only [puts, gets]
              refine any_take (by kernel_rfl) (i := 14) (oi := _) (v := undef) rfl rfl (by kernel_rfl) (by kernel_rfl) (by kernel_rfl) (fun _ _ _ h => h) (Or.inr ⟨by rfl, rfl⟩) hHeld ?_
              try simp only [puts, gets]
              refine any_take (by kernel_rfl) (i := 15) (oi := _) (v := undef) rfl rfl (by kernel_rfl) (by kernel_rfl) (by kernel_rfl) (fun _ _ _ h => h) (Or.inr ⟨by rfl, rfl⟩) hHeld ?_
              try simp only [puts, gets]
              refine any_take (by kernel_rfl) (i := 16) (oi := _) (v := undef) rfl rfl (by kernel_rfl) (by kernel_rfl) (by kernel_rfl) (fun _ _ _ h => h) (Or.inr ⟨by rfl, rfl⟩) hHeld ?_
              try simp only [puts, gets]
              refine any_take (by kernel_rfl) (i := 17) (oi := _) (v := undef) rfl rfl (by kernel_rfl) (by kernel_rfl) (by kernel_rfl) (fun _ _ _ h => h) (Or.inr ⟨by rfl, rfl⟩) hHeld ?_
              try simp only [puts, gets]
              refine any_take (by kernel_rfl) (i := 18) (oi := _) (v := undef) rfl rfl (by kernel_rfl) (by kernel_rfl) (by kernel_rfl) (fun _ _ _ h => h) (Or.inr ⟨by rfl, rfl⟩) hHeld ?_
              try simp only [puts, gets]
              refine any_take (by kernel_rfl) (i := 19) (oi := _) (v := ?_) rfl rfl (by kernel_rfl) (by kernel_rfl) (by kernel_rfl) (fun _ _ _ h => h) (Or.inl ⟨by rfl, ?_⟩) hHeld ?_
              rotate_left
              · intro w' hSw; try dsimp only at hSw
                go_simp
                try with_reducible rfl
              try simp only [puts, gets]
              refine any_done (by kernel_rfl) ?_ _
              refine NoPanic.normal ?_
              go_wp2
              go_meet
              case rel => exact ⟨rfl, bq1⟩
            · skip
              refine wp_region_noPanic ?_
              refine wp_region_late (fun w' => w'.cell? ⟨w.heap.size, 0, none⟩ = some (.string L.name.1) ∧ w'.cell? ⟨w.heap.size, 1, none⟩ = some (.slice ea L.elems.length ec) ∧ w'.cell? ⟨w.heap.size, 2, none⟩ = some (.slice (some ⟨b1, of1, none⟩) L.covers.length cc) ∧ w'.cell? ⟨w.heap.size, 3, none⟩ = some (.int .i64 L.at_) ∧ w'.cell? ⟨b1, of1 + k * 2, none⟩ = some (.int .i64 c1) ∧ w'.cell? ⟨b1, of1 + k * 2 + 1, none⟩ = some (.int .i64 c2)) 20 (by kernel_rfl) (HS _ (below_drew' bR)) (fun hHeld => ?_)
              refine any_take (by kernel_rfl) (i := 0) (oi := _) (v := ?_) rfl rfl (by kernel_rfl) (by kernel_rfl) (by kernel_rfl) (fun _ _ _ h => h) (Or.inl ⟨by rfl, ?_⟩) hHeld ?_
              rotate_left
              · intro w' hSw; try dsimp only at hSw
                go_simp
                try with_reducible rfl
              try simp only [puts, gets]
              refine any_take (by kernel_rfl) (i := 1) (oi := _) (v := ?_) rfl rfl (by kernel_rfl) (by kernel_rfl) (by kernel_rfl) (fun _ _ _ h => h) (Or.inl ⟨by rfl, ?_⟩) hHeld ?_
              rotate_left
              · intro w' hSw; try dsimp only at hSw
                go_simp
                try with_reducible rfl
              try simp only [puts, gets]
              refine any_take (by kernel_rfl) (i := 2) (oi := _) (v := ?_) rfl rfl (by kernel_rfl) (by kernel_rfl) (by kernel_rfl) (fun _ _ _ h => h) (Or.inl ⟨by rfl, ?_⟩) hHeld ?_
              rotate_left
              · intro w' hSw; try dsimp only at hSw
                go_simp
                try with_reducible rfl
              try simp only [puts, gets]
              refine any_take (by kernel_rfl) (i := 3) (oi := _) (v := ?_) rfl rfl (by kernel_rfl) (by kernel_rfl) (by kernel_rfl) (fun _ _ _ h => h) (Or.inl ⟨by rfl, ?_⟩) hHeld ?_
              rotate_left
              · intro w' hSw; try dsimp only at hSw
                go_simp
                try with_reducible rfl
              try simp only [puts, gets]
              refine any_take (by kernel_rfl) (i := 4) (oi := _) (v := ?_) rfl rfl (by kernel_rfl) (by kernel_rfl) (by kernel_rfl) (fun _ _ _ h => h) (Or.inl ⟨by rfl, ?_⟩) hHeld ?_
              rotate_left
              · intro w' hSw; try dsimp only at hSw
                go_simp
                try with_reducible rfl
              try simp only [puts, gets]
              refine any_take (by kernel_rfl) (i := 5) (oi := _) (v := ?_) rfl rfl (by kernel_rfl) (by kernel_rfl) (by kernel_rfl) (fun _ _ _ h => h) (Or.inl ⟨by rfl, ?_⟩) hHeld ?_
              rotate_left
              · intro w' hSw; try dsimp only at hSw
                go_simp
                try with_reducible rfl
              try simp only [puts, gets]
              refine any_take (by kernel_rfl) (i := 6) (oi := _) (v := ?_) rfl rfl (by kernel_rfl) (by kernel_rfl) (by kernel_rfl) (fun _ _ _ h => h) (Or.inl ⟨by rfl, ?_⟩) hHeld ?_
              rotate_left
              · intro w' hSw; try dsimp only at hSw
                go_simp
                try with_reducible rfl
              try simp only [puts, gets]
              refine any_next (i := 7) (by kernel_rfl) rfl rfl (fun K hK => ?_)
              go_simp
              go_at_call 37
              refine in_ts (HAL.out _ (below_drew' bR)) HX1 ?_
              intro wq1 bq1
              replace bq1 : Below wb.heap.size wb wq1 := below_trans bR (below_undrew bq1)
              refine hK.out _ _ ?_ (fun hHeld => ?_)
              · exact HS _ bq1
              clear hK K
              try simp only [puts, gets]
              refine any_take (by kernel_rfl) (i := 8) (oi := _) (v := ?_) rfl rfl (by kernel_rfl) (by kernel_rfl) (by kernel_rfl) (fun _ _ _ h => h) (Or.inl ⟨by rfl, ?_⟩) hHeld ?_
              rotate_left
              · intro w' hSw; try dsimp only at hSw
                go_simp
                try with_reducible rfl
              try simp only [puts, gets]
              refine any_take (by kernel_rfl) (i := 9) (oi := _) (v := ?_) rfl rfl (by kernel_rfl) (by kernel_rfl) (by kernel_rfl) (fun _ _ _ h => h) (Or.inl ⟨by rfl, ?_⟩) hHeld ?_
              rotate_left
              · intro w' hSw; try dsimp only at hSw
                go_simp
                try with_reducible rfl
              try simp only [puts, gets]
              refine any_take (by kernel_rfl) (i := 10) (oi := _) (v := ?_) rfl rfl (by kernel_rfl) (by kernel_rfl) (by kernel_rfl) (fun _ _ _ h => h) (Or.inl ⟨by rfl, ?_⟩) hHeld ?_
              rotate_left
              · intro w' hSw; try dsimp only at hSw
                go_simp
                try with_reducible rfl
              try simp only [puts, gets]
              refine any_take (by kernel_rfl) (i := 11) (oi := _) (v := ?_) rfl rfl (by kernel_rfl) (by kernel_rfl) (by kernel_rfl) (fun _ _ _ h => h) (Or.inl ⟨by rfl, ?_⟩) hHeld ?_
              rotate_left
              · intro w' hSw; try dsimp only at hSw
                go_simp
                try with_reducible rfl
              try simp only [puts, gets]
              refine any_take (by kernel_rfl) (i := 12) (oi := _) (v := ?_) rfl rfl (by kernel_rfl) (by kernel_rfl) (by kernel_rfl) (fun _ _ _ h => h) (Or.inl ⟨by rfl, ?_⟩) hHeld ?_
              rotate_left
              · intro w' hSw; try dsimp only at hSw
                go_simp
                try with_reducible rfl
              try simp only [puts, gets]
              refine any_take (by kernel_rfl) (i := 13) (oi := _) (v := ?_) rfl rfl (by kernel_rfl) (by kernel_rfl) (by kernel_rfl) (fun _ _ _ h => h) (Or.inl ⟨by rfl, ?_⟩) hHeld ?_
              rotate_left
              · intro w' hSw; try dsimp only at hSw
                go_simp
                try with_reducible rfl
              try simp only [puts, gets]
              refine any_take (by kernel_rfl) (i := 14) (oi := _) (v := ?_) rfl rfl (by kernel_rfl) (by kernel_rfl) (by kernel_rfl) (fun _ _ _ h => h) (Or.inl ⟨by rfl, ?_⟩) hHeld ?_
              rotate_left
              · intro w' hSw; try dsimp only at hSw
                go_simp
                try with_reducible rfl
              try simp only [puts, gets]
              refine any_take (by kernel_rfl) (i := 15) (oi := _) (v := ?_) rfl rfl (by kernel_rfl) (by kernel_rfl) (by kernel_rfl) (fun _ _ _ h => h) (Or.inl ⟨by rfl, ?_⟩) hHeld ?_
              rotate_left
              · intro w' hSw; try dsimp only at hSw
                go_simp
                try with_reducible rfl
              try simp only [puts, gets]
              refine any_take (by kernel_rfl) (i := 16) (oi := _) (v := ?_) rfl rfl (by kernel_rfl) (by kernel_rfl) (by kernel_rfl) (fun _ _ _ h => h) (Or.inl ⟨by rfl, ?_⟩) hHeld ?_
              rotate_left
              · intro w' hSw; try dsimp only at hSw
                go_simp
                try with_reducible rfl
              try simp only [puts, gets]
              refine any_next (i := 17) (by kernel_rfl) rfl rfl (fun K hK => ?_)
              go_simp
              go_at_call 37
              refine in_ts (HAL.out _ bq1) HX2 ?_
              intro wq2 bq2
              replace bq2 : Below wb.heap.size wb wq2 := below_trans bq1 bq2
              refine hK.out _ _ ?_ (fun hHeld => ?_)
              · exact HS _ bq2
              clear hK K
              try simp only [puts, gets]
              refine any_take (by kernel_rfl) (i := 18) (oi := _) (v := ?_) rfl rfl (by kernel_rfl) (by kernel_rfl) (by kernel_rfl) (fun _ _ _ h => h) (Or.inl ⟨by rfl, ?_⟩) hHeld ?_
              rotate_left
              · intro w' hSw; try dsimp only at hSw
                go_simp
                try with_reducible rfl
              try simp only [puts, gets]
              refine any_take (by kernel_rfl) (i := 19) (oi := _) (v := ?_) rfl rfl (by kernel_rfl) (by kernel_rfl) (by kernel_rfl) (fun _ _ _ h => h) (Or.inl ⟨by rfl, ?_⟩) hHeld ?_
              rotate_left
              · intro w' hSw; try dsimp only at hSw
                go_simp
                try with_reducible rfl
              try simp only [puts, gets]
              refine any_done (by kernel_rfl) ?_ _
              refine NoPanic.normal ?_
              go_wp2
              go_meet
              case rel => exact ⟨by cases x2 <;> rfl, bq2⟩
          case rest =>
            obtain ⟨rfl, bQ⟩ := hcut
            rw [HX1.out, HX2.out] at HIR
            cases hx : (x1 && x2)
            · have HF := Lib.hid (names_bad (args_pair HM.out (HIR.out.trans hx)))
              clear hx
              go_wp2
              go_ret
              exact ⟨ret_int HF.out.symm, below_trans b0 bQ⟩
            · have HX := Lib.hid (HIR.out.trans hx)
              clear hx
              go_wp2
              go_roundw
              case rel =>
                exact ⟨k + 1, by omega, by go_num, Lib.hid fun j y hj hy => by
                  rcases Nat.lt_or_ge j k with h | h
                  · exact HN.out j y h hy
                  · obtain rfl : j = k := by omega
                    obtain rfl := Option.some.inj (HG.out.symm.trans hy)
                    exact HX.out, bQ⟩
              case measure => simp [intOf]; omega
        · have e : k = L.covers.length := by omega
          subst e
          have hd : decide (L.covers.length < L.covers.length) = false := decide_eq_false hlt
          have HCA := Lib.hid (show ∀ c ∈ L.covers, inR L.elems.length c = true from fun x hx => by obtain ⟨j, hj, rfl⟩ := List.mem_iff_getElem.1 hx; exact HN.out j _ hj (List.getElem?_eq_getElem hj))
          have HAR := Lib.hid (args_ok HNM.out h1 h2 h3 HNA.out HCA.out)
          clear HN HNA HCA
          go_upto_region 13 with fail
          clear y0 y1 y2 y3 hd
          go_wp2
          go_loopw [5, 6] (fun i _ wr => ∃ k : Nat, k ≤ L.elems.length ∧ i = .int .i64 k ∧ Hid (∀ a x, a < k → L.elems[a]? = some x → x ∉ L.elems.take a) ∧ Below wb.heap.size wb wr) (fun i _ _ => L.elems.length - (intOf i).toNat)
          case atStart => exact ⟨0, Nat.zero_le _, rfl, Lib.hid fun _ _ h => by omega, bR⟩
          case round =>
            clear bR
            obtain ⟨a, ha, rfl, HN, bR⟩ := hrel
            obtain ⟨wo, rfl⟩ : ∃ wo : World, wo = wr := ⟨_, rfl⟩
            obtain ⟨y0, y1, y2, y3⟩ := Box4.of (block_keep g0 bR)
            by_cases hlt : a < L.elems.length
            · have hd : decide (a < L.elems.length) = true := decide_eq_true hlt
              obtain ⟨b1, of1, hce, hc⟩ := hNE.at_ (List.getElem?_eq_getElem hlt)
              cases hce
              have HG := Lib.hid (List.getElem?_eq_getElem hlt)
              obtain ⟨x, hx⟩ : ∃ x, L.elems[a] = x := ⟨_, rfl⟩
              rw [hx] at hc HG
              clear hx
              have haI : (a : Int) < (L.elems.length : Int) := by omega
              have ha0 : (0 : Int) ≤ (a : Int) := by omega
              go_upto_region 16 with fail
              clear y0 y1 y2 y3
              go_wp2
              go_loopw [6] (fun i wr => ∃ k : Nat, k ≤ a ∧ i = .int .i64 k ∧ Hid (x ∉ L.elems.take k) ∧ Below wb.heap.size wb wr) (fun i _ => a - (intOf i).toNat)
              case atStart => exact ⟨0, Nat.zero_le _, rfl, Lib.hid (by simp), bR⟩
              case round =>
                clear bR
                obtain ⟨k, hk, rfl, HNK, bR⟩ := hrel
                obtain ⟨wi, rfl⟩ : ∃ wi : World, wi = wr := ⟨_, rfl⟩
                obtain ⟨y0, y1, y2, y3⟩ := Box4.of (block_keep g0 bR)
                by_cases hlk : k < a
                · have hdk : decide (k < a) = true := decide_eq_true hlk
                  have hkl : k < L.elems.length := by omega
                  obtain ⟨b2, of2, hce, hc2⟩ := hNE.at_ (List.getElem?_eq_getElem hkl)
                  cases hce
                  have HT := Lib.hid (List.take_succ_eq_append_getElem hkl)
                  obtain ⟨z, hz⟩ : ∃ z, L.elems[k] = z := ⟨_, rfl⟩
                  rw [hz] at hc2 HT
                  clear hz
                  have hkI : (k : Int) < (L.elems.length : Int) := by omega
                  have hk0 : (0 : Int) ≤ (k : Int) := by omega
                  have HS : ∀ W, Below wb.heap.size wb W → (fun w' => w'.cell? ⟨w.heap.size, 1, none⟩ = some (.slice (some ⟨b1, of1, none⟩) L.elems.length ec) ∧ w'.cell? ⟨b1, of1 + a, none⟩ = some (.string x.1) ∧ w'.cell? ⟨b1, of1 + k, none⟩ = some (.string z.1)) W := fun W hW => ⟨(Box4.of (block_keep g0 hW)).c1, cell_keep (below_trans b0 hW) hc, cell_keep (below_trans b0 hW) hc2⟩
                  go_upto_region 19 with fail
                  clear y0 y1 y2 y3
                  obtain ⟨tt, htt⟩ : ∃ t, (x.1.toList == z.1.toList) = t := ⟨_, rfl⟩
                  have HTT := Lib.hid htt
                  go_cut [92] from 77 to 92 (fun vt wx => vt = .bool tt ∧ Below wb.heap.size wb wx)
                  case first =>
                    refine wp_region_noPanic ?_
                    refine wp_region_late (fun w' => w'.cell? ⟨w.heap.size, 1, none⟩ = some (.slice (some ⟨b1, of1, none⟩) L.elems.length ec) ∧ w'.cell? ⟨b1, of1 + a, none⟩ = some (.string x.1) ∧ w'.cell? ⟨b1, of1 + k, none⟩ = some (.string z.1)) 11 (by kernel_rfl) (HS _ (below_drew' bR)) (fun hHeld => ?_)
                    refine any_take (by kernel_rfl) (i := 0) (oi := _) (v := ?_) rfl rfl (by kernel_rfl) (by kernel_rfl) (by kernel_rfl) (fun _ _ _ h => h) (Or.inl ⟨by rfl, ?_⟩) hHeld ?_
                    rotate_left
                    · intro w' hSw; try dsimp only at hSw
                      go_simp
                      try with_reducible rfl
                    try simp only [puts, gets]
                    refine any_take (by kernel_rfl) (i := 1) (oi := _) (v := ?_) rfl rfl (by kernel_rfl) (by kernel_rfl) (by kernel_rfl) (fun _ _ _ h => h) (Or.inl ⟨by rfl, ?_⟩) hHeld ?_
                    rotate_left
                    · intro w' hSw; try dsimp only at hSw
                      go_simp
                      try with_reducible rfl
                    try simp only [puts, gets]
                    refine any_take (by kernel_rfl) (i := 2) (oi := _) (v := ?_) rfl rfl (by kernel_rfl) (by kernel_rfl) (by kernel_rfl) (fun _ _ _ h => h) (Or.inl ⟨by rfl, ?_⟩) hHeld ?_
                    rotate_left
                    · intro w' hSw; try dsimp only at hSw
                      go_simp
                      try with_reducible rfl
                    try simp only [puts, gets]
                    refine any_take (by kernel_rfl) (i := 3) (oi := _) (v := ?_) rfl rfl (by kernel_rfl) (by kernel_rfl) (by kernel_rfl) (fun _ _ _ h => h) (Or.inl ⟨by rfl, ?_⟩) hHeld ?_
                    rotate_left
                    · intro w' hSw; try dsimp only at hSw
                      go_simp
                      try with_reducible rfl
                    try simp only [puts, gets]
                    refine any_take (by kernel_rfl) (i := 4) (oi := _) (v := ?_) rfl rfl (by kernel_rfl) (by kernel_rfl) (by kernel_rfl) (fun _ _ _ h => h) (Or.inl ⟨by rfl, ?_⟩) hHeld ?_
                    rotate_left
                    · intro w' hSw; try dsimp only at hSw
                      go_simp
                      try with_reducible rfl
                    try simp only [puts, gets]
                    refine any_take (by kernel_rfl) (i := 5) (oi := _) (v := ?_) rfl rfl (by kernel_rfl) (by kernel_rfl) (by kernel_rfl) (fun _ _ _ h => h) (Or.inl ⟨by rfl, ?_⟩) hHeld ?_
                    rotate_left
                    · intro w' hSw; try dsimp only at hSw
                      go_simp
                      try with_reducible rfl
                    try simp only [puts, gets]
                    refine any_take (by kernel_rfl) (i := 6) (oi := _) (v := ?_) rfl rfl (by kernel_rfl) (by kernel_rfl) (by kernel_rfl) (fun _ _ _ h => h) (Or.inl ⟨by rfl, ?_⟩) hHeld ?_
                    rotate_left
                    · intro w' hSw; try dsimp only at hSw
                      go_simp
                      try with_reducible rfl
                    try simp only [puts, gets]
                    refine any_take (by kernel_rfl) (i := 7) (oi := _) (v := ?_) rfl rfl (by kernel_rfl) (by kernel_rfl) (by kernel_rfl) (fun _ _ _ h => h) (Or.inl ⟨by rfl, ?_⟩) hHeld ?_
                    rotate_left
                    · intro w' hSw; try dsimp only at hSw
                      go_simp
                      try with_reducible rfl
                    try simp only [puts, gets]
                    refine any_take (by kernel_rfl) (i := 8) (oi := _) (v := ?_) rfl rfl (by kernel_rfl) (by kernel_rfl) (by kernel_rfl) (fun _ _ _ h => h) (Or.inl ⟨by rfl, ?_⟩) hHeld ?_
                    rotate_left
                    · intro w' hSw; try dsimp only at hSw
                      go_simp
                      try with_reducible rfl
                    try simp only [puts, gets]
                    refine any_take (by kernel_rfl) (i := 9) (oi := _) (v := ?_) rfl rfl (by kernel_rfl) (by kernel_rfl) (by kernel_rfl) (fun _ _ _ h => h) (Or.inl ⟨by rfl, ?_⟩) hHeld ?_
                    rotate_left
                    · intro w' hSw; try dsimp only at hSw
                      go_simp
                      try with_reducible rfl
                    try simp only [puts, gets]
                    refine any_take (by kernel_rfl) (i := 10) (oi := _) (v := ?_) rfl rfl (by kernel_rfl) (by kernel_rfl) (by kernel_rfl) (fun _ _ _ h => h) (Or.inl ⟨by rfl, ?_⟩) hHeld ?_
                    rotate_left
                    · intro w' hSw; try dsimp only at hSw
                      go_simp
                      try with_reducible rfl
                    try simp only [puts, gets]
                    refine any_done (by kernel_rfl) ?_ _
                    refine NoPanic.normal ?_
                    go_wp2
                    go_meet
                    case rel => exact ⟨rfl, below_drew' bR⟩
                  case rest =>
                    obtain ⟨rfl, bQ⟩ := hcut
                    clear htt
                    by_cases hxz : x = z
                    · have HF := Lib.hid (names_dup HAR.out (dup_yes HG.out (List.mem_of_mem_take (i := k + 1) (by rw [List.take_take, Nat.min_eq_left (by omega), HT.out, hxz]; simp))))
                      obtain rfl : tt = true := HTT.out.symm.trans (nm_eq hxz)
                      clear hxz
                      go_wp2
                      go_ret
                      exact ⟨ret_int HF.out.symm, below_trans b0 bQ⟩
                    · obtain rfl : tt = false := HTT.out.symm.trans (nm_ne hxz)
                      have HX := Lib.hid (show x ∉ L.elems.take (k + 1) by rw [HT.out]; intro hm; rcases List.mem_append.1 hm with hm | hm; exact HNK.out hm; exact hxz (List.mem_singleton.1 hm))
                      clear hxz
                      go_wp2
                      go_roundw
                      case rel => exact ⟨k + 1, by omega, by go_num, HX, bQ⟩
                      case measure => simp [intOf]; omega
                · have e : k = a := by omega
                  subst e
                  have hdk : decide (k < k) = false := decide_eq_false hlk
                  go_wp2
                  go_roundw
                  case rel =>
                    exact ⟨k + 1, by omega, by go_num, Lib.hid fun j y hj hy => by
                      rcases Nat.lt_or_ge j k with h | h
                      · exact HN.out j y h hy
                      · obtain rfl : j = k := by omega
                        obtain rfl := Option.some.inj (HG.out.symm.trans hy)
                        exact HNK.out, bR⟩
                  case measure => simp [intOf]; omega
            · have e : a = L.elems.length := by omega
              subst e
              have hd : decide (L.elems.length < L.elems.length) = false := decide_eq_false hlt
              have HF := Lib.hid (names_ok HAR.out (dup_no fun j x hx => HN.out j x (List.getElem?_eq_some_iff.1 hx).1 hx))
              go_wp2
              go_ret
              exact ⟨ret_int HF.out.symm, below_trans b0 bR⟩
end Go.Proofs.YtkjlflmcojmfgaaDoor
