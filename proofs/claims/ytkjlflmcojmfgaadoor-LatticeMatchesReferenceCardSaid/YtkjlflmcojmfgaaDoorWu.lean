/- The walks of the reference's Lub, Join, Bottom. -/
import Derived.Test.YtkjlflmcojmfgaaDoorWt
namespace Go.Proofs.YtkjlflmcojmfgaaDoor
open Go.RowKit
theorem lub_bad {L : Ltc} {l : List Int} {k : Nat} (hk : k < l.length) (h : ¬ (0 ≤ l[k] ∧ l[k] < (L.elems.length : Int))) : lubL L l = -1 := by
  unfold lubL
  rw [if_neg]
  rintro ⟨_, h2⟩
  unfold inAll at h2
  rw [List.all_eq_true] at h2
  exact h (of_decide_eq_true (h2 _ (List.getElem_mem hk)))
theorem cast_toNat {l : List Int} (h : ∀ x ∈ l, 0 ≤ x) : castI (l.map Int.toNat) = l := by
  unfold castI
  rw [List.map_map]
  conv => rhs; rw [← List.map_id l]
  exact List.map_congr_left fun x hx => by have := h x hx; simp; omega
theorem order_ts {v : Value} {L : Ltc} {w : World} {Q : Ending → World → Prop} (h : IsLtc w v L) (hA : Hid (argsOk L = true)) (k : ∀ G c w', IsMat w' G c L.elems.length (ordL L) → Below w.heap.size w w' → Q (.returned (.slice (some ⟨G, 0, none⟩) L.elems.length c)) w') : Calls Tryd.prog 32 #[v] w Q :=
  (Order_ref v L w h hA.out).mono fun e w' ⟨G, c, he, hM, hb⟩ => by subst he; exact k G c w' hM hb
theorem marked_ts {n : Nat} {lv : Value} {l : List Nat} {w : World} {Q : Ending → World → Prop} (hl : IsInts w lv (castI l)) (hr : Hid (∀ a ∈ l, a < n)) (hn : n ≤ 1000) (k : ∀ g w', BRow w' g n (fun b => decide (b ∈ l)) → Below w.heap.size w w' → Q (.returned (.slice (some ⟨g, 0, none⟩) n n)) w') : Calls Tryd.prog 34 #[.int .i64 n, lv] w Q :=
  (marked_ref n lv l w hl hr hn).mono fun e w' ⟨g, he, hB, hb⟩ => by subst he; exact k g w' hB hb
theorem bound_ts {G c n : Nat} {o : Rl2} {g cg : Nat} {mk : Nat → Bool} {w : World} {m : Int} {Q : Ending → World → Prop} (hM : IsMat w G c n o) (hB : BRow w g n mk) (hn : n ≤ 1000) (hm : Hid (boundOf n o mk = m)) (k : ∀ w', Below w.heap.size w w' → Q (.returned (.int .i64 m)) w') : Calls Tryd.prog 33 #[.slice (some ⟨G, 0, none⟩) n c, .slice (some ⟨g, 0, none⟩) n cg] w Q :=
  (bound_ref G c n o g cg mk w hM hB hn).mono fun e w' ⟨he, hb⟩ => by subst he; rw [hm.out]; exact k w' hb
set_option maxHeartbeats 4000000 in
set_option maxRecDepth 100000 in
theorem Lub_ref (v : Value) (L : Ltc) (lv : Value) (l : List Int) (w : World) (h : IsLtc w v L) (hl : IsInts w lv l) (hK : KeysAt w 1) : Calls Tryd.prog 19 #[v, lv] w fun e w' => e = .returned (.int .i64 (lubL L l)) ∧ Below w.heap.size w w' := by
  have hl0 := hl
  obtain ⟨la, lc, rfl, n1, n2, n3⟩ := IsRows.shape hl
  have h0 := h
  obtain ⟨ea, ec, ca, cc, rfl, -, -, m1, m2, m3⟩ := h.shape
  have g0 := heap_alloc_new w (.cells #[.string L.name.1, .slice ea L.elems.length ec, .slice ca L.covers.length cc, .int .i64 L.at_] 25)
  have b0 := below_new w (.cells #[.string L.name.1, .slice ea L.elems.length ec, .slice ca L.covers.length cc, .int .i64 L.at_] 25)
  obtain ⟨wb, hwb⟩ : ∃ x : World, x = w.alloc (.cells #[.string L.name.1, .slice ea L.elems.length ec, .slice ca L.covers.length cc, .int .i64 L.at_] 25) := ⟨_, rfl⟩
  rw [← hwb] at g0 b0
  obtain ⟨y0, y1, y2, y3⟩ := Box4.of g0
  go_enter Tryd.func19, Tryd.ntmps19
  go_wp2_with fail
  rw [← hwb]
  refine (Check_ref _ L _ (h0.keep (keeps_below b0)) (hK.keep (keeps_below b0))).mono ?_
  rintro e w1 ⟨rfl, bN⟩
  clear hwb y0 y1 y2 y3
  replace g0 := block_keep g0 bN
  replace b0 := below_trans b0 bN
  clear bN
  by_cases hck : checkL L = 0
  case neg =>
    have HF := Lib.hid (show lubL L l = -1 by unfold lubL; rw [if_neg (fun h => hck h.1)])
    have hq : (checkL L != 0) = true := by simpa using hck
    generalize checkL L = c at *
    go_wp2
    go_ret
    exact ⟨ret_int HF.out.symm, b0⟩
  have HCK := Lib.hid hck
  rw [hck]
  have HAR := Lib.hid (check_zero hck).1
  have hn8 := (args_parts HAR.out).1
  clear hck
  have bX := Below.refl w1.heap.size w1
  go_wp2
  go_loopw [5] (fun i wr => ∃ k : Nat, k ≤ l.length ∧ i = .int .i64 k ∧ Hid (∀ j x, j < k → l[j]? = some x → 0 ≤ x ∧ x < (L.elems.length : Int)) ∧ Below w1.heap.size w1 wr) (fun i _ => l.length - (intOf i).toNat)
  case atStart => exact ⟨0, Nat.zero_le _, rfl, Lib.hid fun _ _ h => by omega, bX⟩
  case round =>
    clear bX
    obtain ⟨k, hk, rfl, HN, bR⟩ := hrel
    obtain ⟨wo, rfl⟩ : ∃ wo : World, wo = wr := ⟨_, rfl⟩
    by_cases hlt : k < l.length
    · have hd : decide (k < l.length) = true := decide_eq_true hlt
      obtain ⟨b1, of1, hce, hc⟩ := hl0.at_ (List.getElem?_eq_getElem hlt)
      subst hce
      have HG := Lib.hid (List.getElem?_eq_getElem hlt)
      have HBAD := Lib.hid (lub_bad (L := L) hlt)
      generalize l[k] = x at *
      have hkI : (k : Int) < (l.length : Int) := by omega
      have hk0 : (0 : Int) ≤ (k : Int) := by omega
      obtain ⟨x1, hx1⟩ : ∃ y, decide (0 ≤ x ∧ x < (L.elems.length : Int)) = y := ⟨_, rfl⟩
      have HX1 := Lib.hid hx1
      clear hx1
      have HS : ∀ W, Below w1.heap.size w1 W → (fun w' => w'.cell? ⟨w.heap.size, 0, none⟩ = some (.string L.name.1) ∧ w'.cell? ⟨w.heap.size, 1, none⟩ = some (.slice ea L.elems.length ec) ∧ w'.cell? ⟨w.heap.size, 2, none⟩ = some (.slice ca L.covers.length cc) ∧ w'.cell? ⟨w.heap.size, 3, none⟩ = some (.int .i64 L.at_) ∧ w'.cell? ⟨b1, of1 + k, none⟩ = some (.int .i64 x)) W := fun W hW => ⟨(Box4.of (block_keep g0 hW)).c0, (Box4.of (block_keep g0 hW)).c1, (Box4.of (block_keep g0 hW)).c2, (Box4.of (block_keep g0 hW)).c3, cell_keep (below_trans b0 hW) hc⟩
      have HAL := Lib.hid (fun W (hW : Below w1.heap.size w1 W) => (h0.keep (keeps_below (below_trans b0 hW)) : IsLtc W _ L))
      go_upto_region 6 with fail
      go_cut [21] from 9 to 21 (fun vt wx => vt = .bool (!x1) ∧ Below w1.heap.size w1 wx)
      case first =>
        refine wp_region_noPanic ?_
        refine wp_region_late (fun w' => w'.cell? ⟨w.heap.size, 0, none⟩ = some (.string L.name.1) ∧ w'.cell? ⟨w.heap.size, 1, none⟩ = some (.slice ea L.elems.length ec) ∧ w'.cell? ⟨w.heap.size, 2, none⟩ = some (.slice ca L.covers.length cc) ∧ w'.cell? ⟨w.heap.size, 3, none⟩ = some (.int .i64 L.at_) ∧ w'.cell? ⟨b1, of1 + k, none⟩ = some (.int .i64 x)) 7 (by kernel_rfl) (HS _ (below_drew' bR)) (fun hHeld => ?_)
        refine any_take (by kernel_rfl) (i := 0) (oi := _) (v := ?_) rfl rfl (by kernel_rfl) (by kernel_rfl) (by kernel_rfl) (fun _ _ _ h => h) (Or.inl ⟨by rfl, ?_⟩) hHeld ?_
        rotate_left
        · intro w' hSw; try dsimp only at hSw
          go_simp
          try with_reducible rfl
        try simp only [puts, gets]
        refine any_take (by kernel_rfl) (i := 1) (oi := _) (v := ?_) rfl rfl (by kernel_rfl) (by kernel_rfl) (by kernel_rfl) (fun _ _ _ h => h) (Or.inl ⟨by rfl, ?_⟩) hHeld ?_
        rotate_left
        · intro w' hSw; try dsimp only at hSw
          go_simp
          try with_reducible rfl
        try simp only [puts, gets]
        refine any_take (by kernel_rfl) (i := 2) (oi := _) (v := ?_) rfl rfl (by kernel_rfl) (by kernel_rfl) (by kernel_rfl) (fun _ _ _ h => h) (Or.inl ⟨by rfl, ?_⟩) hHeld ?_
        rotate_left
        · intro w' hSw; try dsimp only at hSw
          go_simp
          try with_reducible rfl
        try simp only [puts, gets]
        refine any_take (by kernel_rfl) (i := 3) (oi := _) (v := ?_) rfl rfl (by kernel_rfl) (by kernel_rfl) (by kernel_rfl) (fun _ _ _ h => h) (Or.inl ⟨by rfl, ?_⟩) hHeld ?_
        rotate_left
        · intro w' hSw; try dsimp only at hSw
          go_simp
          try with_reducible rfl
        try simp only [puts, gets]
        refine any_take (by kernel_rfl) (i := 4) (oi := _) (v := ?_) rfl rfl (by kernel_rfl) (by kernel_rfl) (by kernel_rfl) (fun _ _ _ h => h) (Or.inl ⟨by rfl, ?_⟩) hHeld ?_
        rotate_left
        · intro w' hSw; try dsimp only at hSw
          go_simp
          try with_reducible rfl
        try simp only [puts, gets]
        refine any_next (i := 5) (by kernel_rfl) rfl rfl (fun K hK => ?_)
        go_simp
        go_at_call 37
        refine in_ts (HAL.out _ (below_drew' bR)) HX1 ?_
        intro wq1 bq1
        replace bq1 : Below w1.heap.size w1 wq1 := below_trans bR (below_undrew bq1)
        refine hK.out _ _ ?_ (fun hHeld => ?_)
        · exact HS _ bq1
        clear hK K
        try simp only [puts, gets]
        refine any_take (by kernel_rfl) (i := 6) (oi := _) (v := ?_) rfl rfl (by kernel_rfl) (by kernel_rfl) (by kernel_rfl) (fun _ _ _ h => h) (Or.inl ⟨by rfl, ?_⟩) hHeld ?_
        rotate_left
        · intro w' hSw; try dsimp only at hSw
          go_simp
          try with_reducible rfl
        try simp only [puts, gets]
        refine any_done (by kernel_rfl) ?_ _
        refine NoPanic.normal ?_
        go_wp2
        go_meet
        case rel => exact ⟨rfl, bq1⟩
      case rest =>
        obtain ⟨rfl, bQ⟩ := hcut
        cases x1
        · have HF := Lib.hid (HBAD.out (of_decide_eq_false HX1.out))
          go_wp2
          go_ret
          exact ⟨ret_int HF.out.symm, below_trans b0 bQ⟩
        · go_wp2
          go_roundw
          case rel =>
            exact ⟨k + 1, by omega, by go_num, Lib.hid fun j y hj hy => by
              rcases Nat.lt_or_ge j k with h | h
              · exact HN.out j y h hy
              · obtain rfl : j = k := by omega
                obtain rfl := Option.some.inj (HG.out.symm.trans hy)
                exact of_decide_eq_true HX1.out, bQ⟩
          case measure => simp [intOf]; omega
    · have e : k = l.length := by omega
      subst e
      have hd : decide (l.length < l.length) = false := decide_eq_false hlt
      have HIN := Lib.hid (show ∀ x ∈ l, 0 ≤ x ∧ x < (L.elems.length : Int) from fun x hx => by obtain ⟨j, hj, rfl⟩ := List.mem_iff_getElem.1 hx; exact HN.out j _ hj (List.getElem?_eq_getElem hj))
      have HCA := Lib.hid (cast_toNat fun x hx => (HIN.out x hx).1)
      have HRG := Lib.hid (show ∀ a ∈ l.map Int.toNat, a < L.elems.length from fun a ha => by obtain ⟨x, hx, rfl⟩ := List.mem_map.1 ha; have := HIN.out x hx; omega)
      have HBD := Lib.hid (show boundOf L.elems.length (ordL L) (fun b => decide (b ∈ l.map Int.toNat)) = lubL L l by rw [bound_lub HRG.out fun _ _ => rfl]; unfold lubL; rw [if_pos ⟨HCK.out, by unfold inAll; rw [List.all_eq_true]; exact fun x hx => decide_eq_true (HIN.out x hx)⟩])
      have HLI := Lib.hid (fun W (hW : Below w1.heap.size w1 W) => (show IsInts W (.slice la l.length lc) (castI (l.map Int.toNat)) by rw [HCA.out]; exact hl0.keep (keeps_below (below_trans b0 hW))))
      have HAL := Lib.hid (fun W (hW : Below w1.heap.size w1 W) => (h0.keep (keeps_below (below_trans b0 hW)) : IsLtc W _ L))
      obtain ⟨m, hm⟩ : ∃ m, lubL L l = m := ⟨_, rfl⟩
      rw [hm] at HBD
      have HM := Lib.hid hm
      clear hm
      have HS : ∀ W, Below w1.heap.size w1 W → (fun w' => w'.cell? ⟨w.heap.size, 0, none⟩ = some (.string L.name.1) ∧ w'.cell? ⟨w.heap.size, 1, none⟩ = some (.slice ea L.elems.length ec) ∧ w'.cell? ⟨w.heap.size, 2, none⟩ = some (.slice ca L.covers.length cc) ∧ w'.cell? ⟨w.heap.size, 3, none⟩ = some (.int .i64 L.at_)) W := fun W hW => ⟨(Box4.of (block_keep g0 hW)).c0, (Box4.of (block_keep g0 hW)).c1, (Box4.of (block_keep g0 hW)).c2, (Box4.of (block_keep g0 hW)).c3⟩
      go_upto_region 8 with fail
      refine wp_region_noPanic ?_
      refine wp_region_late (fun w' => w'.cell? ⟨w.heap.size, 0, none⟩ = some (.string L.name.1) ∧ w'.cell? ⟨w.heap.size, 1, none⟩ = some (.slice ea L.elems.length ec) ∧ w'.cell? ⟨w.heap.size, 2, none⟩ = some (.slice ca L.covers.length cc) ∧ w'.cell? ⟨w.heap.size, 3, none⟩ = some (.int .i64 L.at_)) 9 (by kernel_rfl) (HS _ (below_drew' bR)) (fun hHeld => ?_)
      refine any_take (by kernel_rfl) (i := 0) (oi := _) (v := ?_) rfl rfl (by kernel_rfl) (by kernel_rfl) (by kernel_rfl) (fun _ _ _ h => h) (Or.inl ⟨by rfl, ?_⟩) hHeld ?_
      rotate_left
      · intro w' hSw; try dsimp only at hSw
        go_simp
        try with_reducible rfl
      try simp only [puts, gets]
      refine any_take (by kernel_rfl) (i := 2) (oi := _) (v := ?_) rfl rfl (by kernel_rfl) (by kernel_rfl) (by kernel_rfl) (fun _ _ _ h => h) (Or.inl ⟨by rfl, ?_⟩) hHeld ?_
      rotate_left
      · intro w' hSw; try dsimp only at hSw
        go_simp
        try with_reducible rfl
      try simp only [puts, gets]
      refine any_take (by kernel_rfl) (i := 3) (oi := _) (v := ?_) rfl rfl (by kernel_rfl) (by kernel_rfl) (by kernel_rfl) (fun _ _ _ h => h) (Or.inl ⟨by rfl, ?_⟩) hHeld ?_
      rotate_left
      · intro w' hSw; try dsimp only at hSw
        go_simp
        try with_reducible rfl
      try simp only [puts, gets]
      refine any_take (by kernel_rfl) (i := 4) (oi := _) (v := ?_) rfl rfl (by kernel_rfl) (by kernel_rfl) (by kernel_rfl) (fun _ _ _ h => h) (Or.inl ⟨by rfl, ?_⟩) hHeld ?_
      rotate_left
      · intro w' hSw; try dsimp only at hSw
        go_simp
        try with_reducible rfl
      try simp only [puts, gets]
      refine any_take (by kernel_rfl) (i := 5) (oi := _) (v := ?_) rfl rfl (by kernel_rfl) (by kernel_rfl) (by kernel_rfl) (fun _ _ _ h => h) (Or.inl ⟨by rfl, ?_⟩) hHeld ?_
      rotate_left
      · intro w' hSw; try dsimp only at hSw
        go_simp
        try with_reducible rfl
      try simp only [puts, gets]
      refine any_next (i := 1) (by kernel_rfl) rfl rfl (fun K hK => ?_)
      go_simp
      go_at_call 32
      refine order_ts (HAL.out _ (below_drew' bR)) HAR ?_
      intro G c wq1 hM bq1
      have bB1 : Below w1.heap.size w1 wq1 := below_trans bR (below_undrew bq1)
      refine hK.out _ _ ?_ (fun hHeld => ?_)
      · exact HS _ bB1
      clear hK K
      try simp only [puts, gets]
      refine any_next (i := 6) (by kernel_rfl) rfl rfl (fun K hK => ?_)
      go_simp
      go_at_call 34
      refine marked_ts (l := l.map Int.toNat) (HLI.out _ bB1) HRG (by omega) ?_
      intro g6 wq2 hB bq2
      have bB2 := below_trans bB1 bq2
      refine hK.out _ _ ?_ (fun hHeld => ?_)
      · exact HS _ bB2
      clear hK K
      try simp only [puts, gets]
      refine any_next (i := 7) (by kernel_rfl) rfl rfl (fun K hK => ?_)
      go_simp
      go_at_call 33
      refine bound_ts (hM.keep bq2) hB (by omega) HBD ?_
      intro wq3 bq3
      have bB3 := below_trans bB2 bq3
      refine hK.out _ _ ?_ (fun hHeld => ?_)
      · exact HS _ bB3
      clear hK K
      try simp only [puts, gets]
      refine any_take (by kernel_rfl) (i := 8) (oi := _) (v := ?_) rfl rfl (by kernel_rfl) (by kernel_rfl) (by kernel_rfl) (fun _ _ _ h => h) (Or.inl ⟨by rfl, ?_⟩) hHeld ?_
      rotate_left
      · intro w' hSw; try dsimp only at hSw
        go_simp
        try with_reducible rfl
      try simp only [puts, gets]
      refine any_done (by kernel_rfl) ?_ _
      refine NoPanic.normal ?_
      go_wp2
      go_ret
      exact ⟨ret_int HM.out.symm, below_trans b0 bB3⟩
set_option maxHeartbeats 4000000 in
set_option maxRecDepth 100000 in
theorem Join_ref (v : Value) (L : Ltc) (a b : Int) (w : World) (h : IsLtc w v L) (hK : KeysAt w 1) : Calls Tryd.prog 17 #[v, .int .i64 a, .int .i64 b] w fun e w' => e = .returned (.int .i64 (lubL L [a, b])) ∧ Below w.heap.size w w' := by
  have h0 := h
  obtain ⟨ea, ec, ca, cc, rfl, -, -, m1, m2, m3⟩ := h.shape
  have g0 := heap_alloc_new w (.cells #[.string L.name.1, .slice ea L.elems.length ec, .slice ca L.covers.length cc, .int .i64 L.at_] 25)
  have b0 := below_new w (.cells #[.string L.name.1, .slice ea L.elems.length ec, .slice ca L.covers.length cc, .int .i64 L.at_] 25)
  obtain ⟨wb, hwb⟩ : ∃ x : World, x = w.alloc (.cells #[.string L.name.1, .slice ea L.elems.length ec, .slice ca L.covers.length cc, .int .i64 L.at_] 25) := ⟨_, rfl⟩
  rw [← hwb] at g0 b0
  obtain ⟨y0, y1, y2, y3⟩ := Box4.of g0
  go_enter Tryd.func17, Tryd.ntmps17
  have hLi := join_lit wb a b
  have bA := below_new wb (.cells #[.int .i64 a, .int .i64 b] 3)
  go_upto_region 1 with fail
  rw [← hwb]
  clear hwb
  go_wp2_with fail
  refine (Lub_ref _ L _ [a, b] _ (h0.keep (keeps_below (below_trans b0 bA))) hLi (hK.keep (keeps_below (below_trans b0 bA)))).mono ?_
  rintro e w1 ⟨rfl, bN⟩
  go_wp2
  go_ret
  exact ⟨rfl, below_trans (below_trans b0 bA) bN⟩
set_option maxHeartbeats 4000000 in
set_option maxRecDepth 100000 in
theorem Bottom_ref (v : Value) (L : Ltc) (w : World) (h : IsLtc w v L) (hK : KeysAt w 1) : Calls Tryd.prog 21 #[v] w fun e w' => e = .returned (.int .i64 (lubL L [])) ∧ Below w.heap.size w w' := by
  have h0 := h
  obtain ⟨ea, ec, ca, cc, rfl, -, -, m1, m2, m3⟩ := h.shape
  have g0 := heap_alloc_new w (.cells #[.string L.name.1, .slice ea L.elems.length ec, .slice ca L.covers.length cc, .int .i64 L.at_] 25)
  have b0 := below_new w (.cells #[.string L.name.1, .slice ea L.elems.length ec, .slice ca L.covers.length cc, .int .i64 L.at_] 25)
  obtain ⟨wb, hwb⟩ : ∃ x : World, x = w.alloc (.cells #[.string L.name.1, .slice ea L.elems.length ec, .slice ca L.covers.length cc, .int .i64 L.at_] 25) := ⟨_, rfl⟩
  rw [← hwb] at g0 b0
  obtain ⟨y0, y1, y2, y3⟩ := Box4.of g0
  go_enter Tryd.func21, Tryd.ntmps21
  go_wp2_with fail
  rw [← hwb]
  clear hwb
  refine (Lub_ref _ L _ [] _ (h0.keep (keeps_below b0)) (IsInts.nil _) (hK.keep (keeps_below b0))).mono ?_
  rintro e w1 ⟨rfl, bN⟩
  go_wp2
  go_ret
  exact ⟨rfl, below_trans b0 bN⟩
end Go.Proofs.YtkjlflmcojmfgaaDoor
