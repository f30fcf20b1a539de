/- The walk of the head of the laws of relations. -/
import Derived.Test.YtdibijhaiaiifaaDoorHp
namespace Go.Proofs.YtdibijhaiaiifaaDoor
open Go.RowKit
/-- The frame after a step of a drawn region, laid out: an operation of the list. -/
theorem gets : (∀ (l : List Oper) (i : Nat) (h : i < l.toArray.size), l.toArray[i] = l[i]'(by simpa using h)) ∧ (∀ (x : Oper) (l : List Oper) (h : 0 < (x :: l).length), (x :: l)[0] = x) ∧ ∀ (x : Oper) (l : List Oper) (n : Nat) (h : n + 1 < (x :: l).length), (x :: l)[n + 1] = l[n]'(by simpa using h) :=
  ⟨fun _ _ _ => by simp, fun _ _ _ => rfl, fun _ _ _ _ => rfl⟩
theorem IsRel.take {w : World} {a : Option Addr} {n c : Nat} {l : List RR} (h : IsRel w (.slice a n c) l) {m : Nat} (hm : m ≤ l.length) : IsRel w (.slice a m c) (l.take m) := ⟨h.1.take hm, fun x hx => h.2 x (List.mem_of_mem_take hx)⟩
theorem isRel_lit {w : World} {l : List RR} (hl : l.length ≤ 9223372036854775807) (h : ∀ x ∈ l, RowOk w x) : IsRel (w.alloc (.cells (l.flatMap encR).toArray 44)) (.slice (some ⟨w.heap.size, 0, none⟩) l.length l.length) l :=
  ⟨IsRows.lit w l encsR hl, fun x hx => (h x hx).keep (below_new _ _)⟩
theorem isInts_lit (w : World) (l : List Int) (hl : l.length ≤ 9223372036854775807) : IsInts (w.alloc (.cells (l.flatMap encI).toArray 3)) (.slice (some ⟨w.heap.size, 0, none⟩) l.length l.length) l := IsRows.lit w l encsI hl
set_option maxHeartbeats 16000000 in
set_option maxRecDepth 1000000 in
theorem head_any (w : World) (hT : Tab w) : Calls Tryd.prog 17 #[] w fun e w' => e = .returned (.bool true) ∧ Below w.heap.size w w' := by
  go_enter Tryd.func17, Tryd.ntmps17
  go_wp2_with fail
  refine (row_any [97] (short1 97) 1 0 4 _).mono ?_
  rintro e w1 ⟨ra, rfl, oka, ea, B1⟩
  unfold rowV
  go_wp2_with fail
  refine (row_any [98] (short1 98) 2 2 6 _).mono ?_
  rintro e w2 ⟨rb, rfl, okb, eb, B2⟩
  unfold rowV
  have B12 := below_trans B1 B2
  have oka2 := oka.keep B2
  have R3 : IsRel (w2.alloc (.cells #[ra.av, ra.wv, rb.av, rb.wv] 44)) (.slice (some ⟨w2.heap.size, 0, none⟩) 2 2) [ra, rb] := isRel_lit (l := [ra, rb]) (by simp) (fun x hx => by
    rcases List.mem_cons.1 hx with rfl | hx
    · exact oka2
    · rw [List.mem_singleton.1 hx]; exact okb)
  have C3 := Cel.new w2 44 [ra.av, ra.wv, rb.av, rb.wv]
  have B3 := below_trans B12 (below_new w2 (.cells #[ra.av, ra.wv, rb.av, rb.wv] 44))
  have HR : Hid (rows [ra, rb] = hR) := Lib.hid (show [ra.rw, rb.rw] = _ by rw [ea, eb])
  have HA := Lib.hid ea
  have HB := Lib.hid eb
  clear oka okb oka2 ea eb B1 B2 B12
  go_upto_region 2 with fail
  obtain ⟨w3, hw3⟩ : ∃ z, w2.alloc (.cells #[ra.av, ra.wv, rb.av, rb.wv] 44) = z := ⟨_, rfl⟩
  replace C3 : Cel w3 w2.heap.size 44 [ra.av, ra.wv, rb.av, rb.wv] := by rw [← hw3]; exact C3
  rw [hw3] at R3 B3
  rw [hw3]
  clear hw3
  obtain ⟨g, hg⟩ : ∃ g, w2.heap.size = g := ⟨_, rfl⟩
  rw [hg] at R3 C3
  rw [hg]
  clear hg
  have I4 := isInts_lit w3 [2, 1] (by simp)
  have C4 := Cel.new w3 3 [.int .i64 2, .int .i64 1]
  have B4 := below_new w3 (.cells #[.int .i64 2, .int .i64 1] 3)
  go_upto_region 3 with fail
  obtain ⟨w4, hw4⟩ : ∃ z, w3.alloc (.cells #[.int .i64 2, .int .i64 1] 3) = z := ⟨_, rfl⟩
  replace C4 : Cel w4 w3.heap.size 3 [.int .i64 2, .int .i64 1] := by rw [← hw4]; exact C4
  replace I4 : IsInts w4 (.slice (some ⟨w3.heap.size, 0, none⟩) 2 2) [2, 1] := by rw [← hw4]; exact I4
  rw [hw4] at B4
  rw [hw4]
  clear hw4
  obtain ⟨gt, hgt⟩ : ∃ g, w3.heap.size = g := ⟨_, rfl⟩
  rw [hgt] at I4 C4
  rw [hgt]
  clear hgt
  replace R3 := R3.keep B4
  replace C3 := C3.keep B4
  have BB := below_trans B3 B4
  have hT4 := hT.keep BB
  clear B3 B4
  have HT : Hid (rows [rb, ra] = [(tB, [(2, 6)]), (tA, [(0, 4)])]) := Lib.hid (show [rb.rw, ra.rw] = _ by rw [HA.out, HB.out])
  have I5 : IsInts w4 (.slice (some ⟨gt, 0, none⟩) 1 2) [2] := I4.take (m := 1) (by simp)
  have HM : Hid (Sml 10000 [ra, rb]) := Lib.hid ⟨by simp, fun x hx => by
    have h1 : ra.t = tA := congrArg Prod.fst HA.out
    have h2 : rb.t = tB := congrArg Prod.fst HB.out
    have h3 : ra.s = [(0, 4)] := congrArg Prod.snd HA.out
    have h4 : rb.s = [(2, 6)] := congrArg Prod.snd HB.out
    rcases List.mem_cons.1 hx with rfl | hx
    · rw [h1, h3]; decide
    · rw [List.mem_singleton.1 hx, h2, h4]; decide⟩
  go_upto_region 3 with fail
  go_cut [3] from 11 to 45 (fun v wx => v = .bool true ∧ Below w4.heap.size w4 wx)
  case first =>
    have HS : ∀ w', Below w4.heap.size w4 w' → (fun w' => w'.cell? ⟨g, 0, none⟩ = some ra.av ∧ w'.cell? ⟨g, 1, none⟩ = some ra.wv ∧ w'.cell? ⟨g, 2, none⟩ = some rb.av ∧ w'.cell? ⟨g, 3, none⟩ = some rb.wv) w' := fun w' hb => ⟨(C3.keep hb).at_ (j := 0) rfl, (C3.keep hb).at_ (j := 1) rfl, (C3.keep hb).at_ (j := 2) rfl, (C3.keep hb).at_ (j := 3) rfl⟩
    try simp only [List.append_eq, List.cons_append, List.nil_append]
    refine wp_region_noPanic ?_
    refine wp_region_late (fun w' => w'.cell? ⟨g, 0, none⟩ = some ra.av ∧ w'.cell? ⟨g, 1, none⟩ = some ra.wv ∧ w'.cell? ⟨g, 2, none⟩ = some rb.av ∧ w'.cell? ⟨g, 3, none⟩ = some rb.wv) 36 (by kernel_rfl) (HS _ (Below.refl _ _).drew) (fun hHeld => ?_)
    obtain ⟨wd, hwd⟩ : ∃ x : World, w4.drew = x := ⟨_, rfl⟩
    have bD : Below w4.heap.size w4 wd := by rw [← hwd]; exact (Below.refl _ _).drew
    rw [hwd]
    clear hwd
    have hHeld := HS _ bD
    refine any_take (by kernel_rfl) (i := 0) (oi := _) (v := ?_) rfl rfl (by kernel_rfl) (by kernel_rfl) (by kernel_rfl) (fun _ _ _ h => h) (Or.inl ⟨by rfl, ?_⟩) hHeld ?_
    rotate_left
    · intro w' hSw; try dsimp only at hSw
      go_simp
      try with_reducible rfl
    try simp only [puts, gets]
    refine any_take (by kernel_rfl) (i := 1) (oi := _) (v := ?_) rfl rfl (by kernel_rfl) (by kernel_rfl) (by kernel_rfl) (fun _ _ _ h => h) (Or.inl ⟨by rfl, ?_⟩) hHeld ?_
    rotate_left
    · intro w' hSw; try dsimp only at hSw
      go_simp
      try with_reducible rfl
    try simp only [puts, gets]
    refine any_next (i := 2) (by kernel_rfl) rfl rfl (fun K hK => ?_)
    go_simp
    go_at_call 19
    refine (ValidR_any _ _ [2, 1] [ra, rb] _ (hT4.keep bD) (I4.keep bD) (R3.keep bD)).mono ?_
    rintro e w1 ⟨v, rfl, hv, bC⟩
    obtain rfl : v = true := hv.2 (f_good HR.out)
    replace bD := below_trans bD bC
    clear bC
    refine hK.out _ _ (HS _ bD) (fun hHeld => ?_)
    clear hK K
    try simp only [puts, gets]
    refine any_take (by kernel_rfl) (i := 3) (oi := _) (v := ?_) rfl rfl (by kernel_rfl) (by kernel_rfl) (by kernel_rfl) (fun _ _ _ h => h) (Or.inl ⟨by rfl, ?_⟩) hHeld ?_
    rotate_left
    · intro w' hSw; try dsimp only at hSw
      go_simp
      try with_reducible rfl
    try simp only [puts, gets]
    refine any_take (by kernel_rfl) (i := 4) (oi := _) (v := ?_) rfl rfl (by kernel_rfl) (by kernel_rfl) (by kernel_rfl) (fun _ _ _ h => h) (Or.inl ⟨by rfl, ?_⟩) hHeld ?_
    rotate_left
    · intro w' hSw; try dsimp only at hSw
      go_simp
      try with_reducible rfl
    try simp only [puts, gets]
    refine any_take (by kernel_rfl) (i := 5) (oi := _) (v := ?_) rfl rfl (by kernel_rfl) (by kernel_rfl) (by kernel_rfl) (fun _ _ _ h => h) (Or.inl ⟨by rfl, ?_⟩) hHeld ?_
    rotate_left
    · intro w' hSw; try dsimp only at hSw
      go_simp
      try with_reducible rfl
    try simp only [puts, gets]
    refine any_take (by kernel_rfl) (i := 6) (oi := _) (v := ?_) rfl rfl (by kernel_rfl) (by kernel_rfl) (by kernel_rfl) (fun _ _ _ h => h) (Or.inl ⟨by rfl, ?_⟩) hHeld ?_
    rotate_left
    · intro w' hSw; try dsimp only at hSw
      go_simp
      try with_reducible rfl
    try simp only [puts, gets]
    refine any_take (by kernel_rfl) (i := 7) (oi := _) (v := ?_) rfl rfl (by kernel_rfl) (by kernel_rfl) (by kernel_rfl) (fun _ _ _ h => h) (Or.inl ⟨by rfl, ?_⟩) hHeld ?_
    rotate_left
    · intro w' hSw; try dsimp only at hSw
      go_simp
      try with_reducible rfl
    try simp only [puts, gets]
    refine any_take (by kernel_rfl) (i := 8) (oi := _) (v := ?_) rfl rfl (by kernel_rfl) (by kernel_rfl) (by kernel_rfl) (fun _ _ _ h => h) (Or.inl ⟨by rfl, ?_⟩) hHeld ?_
    rotate_left
    · intro w' hSw; try dsimp only at hSw
      go_simp
      try with_reducible rfl
    try simp only [puts, gets]
    refine any_take (by kernel_rfl) (i := 9) (oi := _) (v := ?_) rfl rfl (by kernel_rfl) (by kernel_rfl) (by kernel_rfl) (fun _ _ _ h => h) (Or.inl ⟨by rfl, ?_⟩) hHeld ?_
    rotate_left
    · intro w' hSw; try dsimp only at hSw
      go_simp
      try with_reducible rfl
    try simp only [puts, gets]
    refine any_take (by kernel_rfl) (i := 10) (oi := _) (v := ?_) rfl rfl (by kernel_rfl) (by kernel_rfl) (by kernel_rfl) (fun _ _ _ h => h) (Or.inl ⟨by rfl, ?_⟩) hHeld ?_
    rotate_left
    · intro w' hSw; try dsimp only at hSw
      go_simp
      try with_reducible rfl
    try simp only [puts, gets]
    refine any_next (i := 11) (by kernel_rfl) rfl rfl (fun K hK => ?_)
    go_simp
    have bC := below_new w1 (.cells #[rb.av, rb.wv, ra.av, ra.wv] 44)
    have RL : IsRel (w1.alloc (.cells #[rb.av, rb.wv, ra.av, ra.wv] 44)) (.slice (some ⟨w1.heap.size, 0, none⟩) 2 2) [rb, ra] := isRel_lit (l := [rb, ra]) (by simp) (fun x hx => (R3.2 x (by simp at hx ⊢; rcases hx with rfl | rfl <;> simp)).keep bD)
    obtain ⟨w2, hw⟩ : ∃ z, w1.alloc (.cells #[rb.av, rb.wv, ra.av, ra.wv] 44) = z := ⟨_, rfl⟩
    rw [hw] at bC RL
    rw [hw]
    clear hw
    replace bD := below_trans bD bC
    clear bC
    refine hK.out _ _ (HS _ bD) (fun hHeld => ?_)
    clear hK K
    try simp only [puts, gets]
    refine any_next (i := 12) (by kernel_rfl) rfl rfl (fun K hK => ?_)
    go_simp
    go_at_call 19
    refine (ValidR_any _ _ [2, 1] [rb, ra] _ (hT4.keep bD) (I4.keep bD) RL).mono ?_
    rintro e w3 ⟨v, rfl, hv, bC⟩
    obtain rfl : v = false := by
      cases v with
      | false => rfl
      | true => exact absurd (hv.1 rfl) (f_turned HT.out)
    clear RL
    replace bD := below_trans bD bC
    clear bC
    refine hK.out _ _ (HS _ bD) (fun hHeld => ?_)
    clear hK K
    try simp only [puts, gets]
    refine any_take (by kernel_rfl) (i := 13) (oi := _) (v := ?_) rfl rfl (by kernel_rfl) (by kernel_rfl) (by kernel_rfl) (fun _ _ _ h => h) (Or.inl ⟨by rfl, ?_⟩) hHeld ?_
    rotate_left
    · intro w' hSw; try dsimp only at hSw
      go_simp
      try with_reducible rfl
    try simp only [puts, gets]
    refine any_take (by kernel_rfl) (i := 14) (oi := _) (v := ?_) rfl rfl (by kernel_rfl) (by kernel_rfl) (by kernel_rfl) (fun _ _ _ h => h) (Or.inl ⟨by rfl, ?_⟩) hHeld ?_
    rotate_left
    · intro w' hSw; try dsimp only at hSw
      go_simp
      try with_reducible rfl
    try simp only [puts, gets]
    refine any_take (by kernel_rfl) (i := 15) (oi := _) (v := ?_) rfl rfl (by kernel_rfl) (by kernel_rfl) (by kernel_rfl) (fun _ _ _ h => h) (Or.inl ⟨by rfl, ?_⟩) hHeld ?_
    rotate_left
    · intro w' hSw; try dsimp only at hSw
      go_simp
      try with_reducible rfl
    try simp only [puts, gets]
    refine any_take (by kernel_rfl) (i := 16) (oi := _) (v := ?_) rfl rfl (by kernel_rfl) (by kernel_rfl) (by kernel_rfl) (fun _ _ _ h => h) (Or.inl ⟨by rfl, ?_⟩) hHeld ?_
    rotate_left
    · intro w' hSw; try dsimp only at hSw
      go_simp
      try with_reducible rfl
    try simp only [puts, gets]
    refine any_take (by kernel_rfl) (i := 17) (oi := _) (v := ?_) rfl rfl (by kernel_rfl) (by kernel_rfl) (by kernel_rfl) (fun _ _ _ h => h) (Or.inl ⟨by rfl, ?_⟩) hHeld ?_
    rotate_left
    · intro w' hSw; try dsimp only at hSw
      go_simp
      try with_reducible rfl
    try simp only [puts, gets]
    refine any_take (by kernel_rfl) (i := 18) (oi := _) (v := ?_) rfl rfl (by kernel_rfl) (by kernel_rfl) (by kernel_rfl) (fun _ _ _ h => h) (Or.inl ⟨by rfl, ?_⟩) hHeld ?_
    rotate_left
    · intro w' hSw; try dsimp only at hSw
      go_simp
      try with_reducible rfl
    try simp only [puts, gets]
    refine any_next (i := 19) (by kernel_rfl) rfl rfl (fun K hK => ?_)
    go_simp
    go_at_call 19
    refine (ValidR_any _ _ [2] [ra, rb] _ (hT4.keep bD) (I5.keep bD) (R3.keep bD)).mono ?_
    rintro e w4 ⟨v, rfl, hv, bC⟩
    obtain rfl : v = false := by
      cases v with
      | false => rfl
      | true => exact absurd (hv.1 rfl) (f_short HR.out)
    replace bD := below_trans bD bC
    clear bC
    refine hK.out _ _ (HS _ bD) (fun hHeld => ?_)
    clear hK K
    try simp only [puts, gets]
    refine any_take (by kernel_rfl) (i := 20) (oi := _) (v := ?_) rfl rfl (by kernel_rfl) (by kernel_rfl) (by kernel_rfl) (fun _ _ _ h => h) (Or.inl ⟨by rfl, ?_⟩) hHeld ?_
    rotate_left
    · intro w' hSw; try dsimp only at hSw
      go_simp
      try with_reducible rfl
    try simp only [puts, gets]
    refine any_take (by kernel_rfl) (i := 21) (oi := _) (v := ?_) rfl rfl (by kernel_rfl) (by kernel_rfl) (by kernel_rfl) (fun _ _ _ h => h) (Or.inl ⟨by rfl, ?_⟩) hHeld ?_
    rotate_left
    · intro w' hSw; try dsimp only at hSw
      go_simp
      try with_reducible rfl
    try simp only [puts, gets]
    refine any_take (by kernel_rfl) (i := 22) (oi := _) (v := ?_) rfl rfl (by kernel_rfl) (by kernel_rfl) (by kernel_rfl) (fun _ _ _ h => h) (Or.inl ⟨by rfl, ?_⟩) hHeld ?_
    rotate_left
    · intro w' hSw; try dsimp only at hSw
      go_simp
      try with_reducible rfl
    try simp only [puts, gets]
    refine any_take (by kernel_rfl) (i := 23) (oi := _) (v := ?_) rfl rfl (by kernel_rfl) (by kernel_rfl) (by kernel_rfl) (fun _ _ _ h => h) (Or.inl ⟨by rfl, ?_⟩) hHeld ?_
    rotate_left
    · intro w' hSw; try dsimp only at hSw
      go_simp
      try with_reducible rfl
    try simp only [puts, gets]
    refine any_take (by kernel_rfl) (i := 25) (oi := _) (v := ?_) rfl rfl (by kernel_rfl) (by kernel_rfl) (by kernel_rfl) (fun _ _ _ h => h) (Or.inl ⟨by rfl, ?_⟩) hHeld ?_
    rotate_left
    · intro w' hSw; try dsimp only at hSw
      go_simp
      try with_reducible rfl
    try simp only [puts, gets]
    refine any_take (by kernel_rfl) (i := 29) (oi := _) (v := ?_) rfl rfl (by kernel_rfl) (by kernel_rfl) (by kernel_rfl) (fun _ _ _ h => h) (Or.inl ⟨by rfl, ?_⟩) hHeld ?_
    rotate_left
    · intro w' hSw; try dsimp only at hSw
      go_simp
      try with_reducible rfl
    try simp only [puts, gets]
    refine any_take (by kernel_rfl) (i := 30) (oi := _) (v := ?_) rfl rfl (by kernel_rfl) (by kernel_rfl) (by kernel_rfl) (fun _ _ _ h => h) (Or.inl ⟨by rfl, ?_⟩) hHeld ?_
    rotate_left
    · intro w' hSw; try dsimp only at hSw
      go_simp
      try with_reducible rfl
    try simp only [puts, gets]
    refine any_take (by kernel_rfl) (i := 31) (oi := _) (v := ?_) rfl rfl (by kernel_rfl) (by kernel_rfl) (by kernel_rfl) (fun _ _ _ h => h) (Or.inl ⟨by rfl, ?_⟩) hHeld ?_
    rotate_left
    · intro w' hSw; try dsimp only at hSw
      go_simp
      try with_reducible rfl
    try simp only [puts, gets]
    refine any_two (i := 24) (j := 26) (by kernel_rfl) rfl rfl rfl rfl (fun K hK => ?_) (fun K hK => ?_)
    · go_simp
      go_at_call 70
      refine (pair_any [97] (short1 97) 1 _).mono ?_
      rintro e w5 ⟨u, rfl, hP, -, bC⟩
      obtain ⟨pu, cu, rfl, -⟩ := id hP
      replace bD := below_trans bD bC
      clear bC
      refine hK.out _ _ (HS _ bD) (fun hHeld => ?_)
      clear hK K
      try simp only [puts, gets]
      refine any_next (i := 26) (by kernel_rfl) rfl rfl (fun K hK => ?_)
      go_simp
      have bC := below_new w5 (.cells #[.int .i64 4, .int .i64 5] 86)
      have hSp : IsSpans (w5.alloc (.cells #[.int .i64 4, .int .i64 5] 86)) (.slice (some ⟨w5.heap.size, 0, none⟩) 1 1) [(4, 5)] := IsSpans.of_rows (IsRows.lit w5 [(4, 5)] encsS (by simp))
      obtain ⟨w6, hw⟩ : ∃ z, w5.alloc (.cells #[.int .i64 4, .int .i64 5] 86) = z := ⟨_, rfl⟩
      rw [hw] at bC hSp
      rw [hw]
      clear hw
      replace hP := hP.keep bC
      replace bD := below_trans bD bC
      clear bC
      refine hK.out _ _ (HS _ bD) (fun hHeld => ?_)
      clear hK K
      try simp only [puts, gets]
      refine any_next (i := 27) (by kernel_rfl) rfl rfl (fun K hK => ?_)
      go_simp
      go_at_call 25
      refine (InsertR_any _ _ _ [ra, rb] tA [(4, 5)] _ (hT4.keep bD) (R3.keep bD) hP hSp HM.out (by decide) (by decide)).mono ?_
      rintro e w7 ⟨u, rfl, zs, RZ, OZ, bC⟩
      replace RZ := RZ.rel
      have HZ := Lib.hid (f_insert HR.out OZ)
      obtain ⟨pz, cz, rfl, -⟩ := RZ.shape
      clear hP hSp OZ
      replace bD := below_trans bD bC
      clear bC
      refine hK.out _ _ (HS _ bD) (fun hHeld => ?_)
      clear hK K
      try simp only [puts, gets]
      refine any_next (i := 28) (by kernel_rfl) rfl rfl (fun K hK => ?_)
      go_simp
      go_at_call 69
      refine (row_any [97] (short1 97) 1 0 5 _).mono ?_
      rintro e w8 ⟨rc, rfl, okc, ec, bC⟩
      unfold rowV
      replace RZ := RZ.keep bC
      replace bD := below_trans bD bC
      clear bC
      refine hK.out _ _ (HS _ bD) (fun hHeld => ?_)
      clear hK K
      try simp only [puts, gets]
      refine any_next (i := 32) (by kernel_rfl) rfl rfl (fun K hK => ?_)
      go_simp
      have bC := below_new w8 (.cells #[rc.av, rc.wv, rb.av, rb.wv] 44)
      have RL : IsRel (w8.alloc (.cells #[rc.av, rc.wv, rb.av, rb.wv] 44)) (.slice (some ⟨w8.heap.size, 0, none⟩) 2 2) [rc, rb] := isRel_lit (l := [rc, rb]) (by simp) (fun x hx => by
      rcases List.mem_cons.1 hx with rfl | hx
      · exact okc
      · rw [List.mem_singleton.1 hx]; exact (R3.2 rb (by simp)).keep bD)
      obtain ⟨w9, hw⟩ : ∃ z, w8.alloc (.cells #[rc.av, rc.wv, rb.av, rb.wv] 44) = z := ⟨_, rfl⟩
      rw [hw] at bC RL
      rw [hw]
      clear hw
      replace RZ := RZ.keep bC
      replace bD := below_trans bD bC
      clear bC
      refine hK.out _ _ (HS _ bD) (fun hHeld => ?_)
      clear hK K
      try simp only [puts, gets]
      refine any_next (i := 33) (by kernel_rfl) rfl rfl (fun K hK => ?_)
      go_simp
      go_at_call 24
      refine (rSameR_any _ _ zs [rc, rb] _ RZ RL).mono ?_
      rintro e w10 ⟨rfl, bC⟩
      have hd : decide (rows zs = rows [rc, rb]) = true := decide_eq_true (by rw [HZ.out]; show _ = [rc.rw, rb.rw]; rw [ec, HB.out])
      rw [hd]
      clear hd RZ RL HZ ec
      replace bD := below_trans bD bC
      clear bC
      refine hK.out _ _ (HS _ bD) (fun hHeld => ?_)
      clear hK K
      try simp only [puts, gets]
      refine any_take (by kernel_rfl) (i := 34) (oi := _) (v := ?_) rfl rfl (by kernel_rfl) (by kernel_rfl) (by kernel_rfl) (fun _ _ _ h => h) (Or.inl ⟨by rfl, ?_⟩) hHeld ?_
      rotate_left
      · intro w' hSw; try dsimp only at hSw
        go_simp
        try with_reducible rfl
      try simp only [puts, gets]
      refine any_take (by kernel_rfl) (i := 35) (oi := _) (v := ?_) rfl rfl (by kernel_rfl) (by kernel_rfl) (by kernel_rfl) (fun _ _ _ h => h) (Or.inl ⟨by rfl, ?_⟩) hHeld ?_
      rotate_left
      · intro w' hSw; try dsimp only at hSw
        go_simp
        try with_reducible rfl
      try simp only [puts, gets]
      refine any_done (by kernel_rfl) ?_ _
      refine NoPanic.normal ?_
      go_wp2
      go_meet
      case rel => exact ⟨rfl, bD⟩
    · go_simp
      have bC := below_new w4 (.cells #[.int .i64 4, .int .i64 5] 86)
      have hSp : IsSpans (w4.alloc (.cells #[.int .i64 4, .int .i64 5] 86)) (.slice (some ⟨w4.heap.size, 0, none⟩) 1 1) [(4, 5)] := IsSpans.of_rows (IsRows.lit w4 [(4, 5)] encsS (by simp))
      obtain ⟨w11, hw⟩ : ∃ z, w4.alloc (.cells #[.int .i64 4, .int .i64 5] 86) = z := ⟨_, rfl⟩
      rw [hw] at bC hSp
      rw [hw]
      clear hw
      replace bD := below_trans bD bC
      clear bC
      refine hK.out _ _ (HS _ bD) (fun hHeld => ?_)
      clear hK K
      try simp only [puts, gets]
      refine any_next (i := 24) (by kernel_rfl) rfl rfl (fun K hK => ?_)
      go_simp
      go_at_call 70
      refine (pair_any [97] (short1 97) 1 _).mono ?_
      rintro e w12 ⟨u, rfl, hP, -, bC⟩
      obtain ⟨pu, cu, rfl, -⟩ := id hP
      replace hSp := hSp.keep bC
      replace bD := below_trans bD bC
      clear bC
      refine hK.out _ _ (HS _ bD) (fun hHeld => ?_)
      clear hK K
      try simp only [puts, gets]
      refine any_next (i := 27) (by kernel_rfl) rfl rfl (fun K hK => ?_)
      go_simp
      go_at_call 25
      refine (InsertR_any _ _ _ [ra, rb] tA [(4, 5)] _ (hT4.keep bD) (R3.keep bD) hP hSp HM.out (by decide) (by decide)).mono ?_
      rintro e w13 ⟨u, rfl, zs, RZ, OZ, bC⟩
      replace RZ := RZ.rel
      have HZ := Lib.hid (f_insert HR.out OZ)
      obtain ⟨pz, cz, rfl, -⟩ := RZ.shape
      clear hP hSp OZ
      replace bD := below_trans bD bC
      clear bC
      refine hK.out _ _ (HS _ bD) (fun hHeld => ?_)
      clear hK K
      try simp only [puts, gets]
      refine any_next (i := 28) (by kernel_rfl) rfl rfl (fun K hK => ?_)
      go_simp
      go_at_call 69
      refine (row_any [97] (short1 97) 1 0 5 _).mono ?_
      rintro e w14 ⟨rc, rfl, okc, ec, bC⟩
      unfold rowV
      replace RZ := RZ.keep bC
      replace bD := below_trans bD bC
      clear bC
      refine hK.out _ _ (HS _ bD) (fun hHeld => ?_)
      clear hK K
      try simp only [puts, gets]
      refine any_next (i := 32) (by kernel_rfl) rfl rfl (fun K hK => ?_)
      go_simp
      have bC := below_new w14 (.cells #[rc.av, rc.wv, rb.av, rb.wv] 44)
      have RL : IsRel (w14.alloc (.cells #[rc.av, rc.wv, rb.av, rb.wv] 44)) (.slice (some ⟨w14.heap.size, 0, none⟩) 2 2) [rc, rb] := isRel_lit (l := [rc, rb]) (by simp) (fun x hx => by
      rcases List.mem_cons.1 hx with rfl | hx
      · exact okc
      · rw [List.mem_singleton.1 hx]; exact (R3.2 rb (by simp)).keep bD)
      obtain ⟨w15, hw⟩ : ∃ z, w14.alloc (.cells #[rc.av, rc.wv, rb.av, rb.wv] 44) = z := ⟨_, rfl⟩
      rw [hw] at bC RL
      rw [hw]
      clear hw
      replace RZ := RZ.keep bC
      replace bD := below_trans bD bC
      clear bC
      refine hK.out _ _ (HS _ bD) (fun hHeld => ?_)
      clear hK K
      try simp only [puts, gets]
      refine any_next (i := 33) (by kernel_rfl) rfl rfl (fun K hK => ?_)
      go_simp
      go_at_call 24
      refine (rSameR_any _ _ zs [rc, rb] _ RZ RL).mono ?_
      rintro e w16 ⟨rfl, bC⟩
      have hd : decide (rows zs = rows [rc, rb]) = true := decide_eq_true (by rw [HZ.out]; show _ = [rc.rw, rb.rw]; rw [ec, HB.out])
      rw [hd]
      clear hd RZ RL HZ ec
      replace bD := below_trans bD bC
      clear bC
      refine hK.out _ _ (HS _ bD) (fun hHeld => ?_)
      clear hK K
      try simp only [puts, gets]
      refine any_take (by kernel_rfl) (i := 34) (oi := _) (v := ?_) rfl rfl (by kernel_rfl) (by kernel_rfl) (by kernel_rfl) (fun _ _ _ h => h) (Or.inl ⟨by rfl, ?_⟩) hHeld ?_
      rotate_left
      · intro w' hSw; try dsimp only at hSw
        go_simp
        try with_reducible rfl
      try simp only [puts, gets]
      refine any_take (by kernel_rfl) (i := 35) (oi := _) (v := ?_) rfl rfl (by kernel_rfl) (by kernel_rfl) (by kernel_rfl) (fun _ _ _ h => h) (Or.inl ⟨by rfl, ?_⟩) hHeld ?_
      rotate_left
      · intro w' hSw; try dsimp only at hSw
        go_simp
        try with_reducible rfl
      try simp only [puts, gets]
      refine any_done (by kernel_rfl) ?_ _
      refine NoPanic.normal ?_
      go_wp2
      go_meet
      case rel => exact ⟨rfl, bD⟩
  case rest =>
  obtain ⟨rfl, bR⟩ := hcut
  obtain ⟨w20, hnew⟩ : ∃ x, wc = x := ⟨_, rfl⟩
  rw [hnew] at bR
  rw [hnew]
  clear hnew
  replace R3 := R3.keep bR
  replace C3 := C3.keep bR
  replace I4 := I4.keep bR
  replace C4 := C4.keep bR
  replace I5 := I5.keep bR
  replace hT4 := hT4.keep bR
  replace BB := below_trans BB bR
  clear bR
  have HBs : Hid (rb.s = [(2, 6)]) := Lib.hid (congrArg Prod.snd HB.out)
  have HAs : Hid (ra.s = [(0, 4)]) := Lib.hid (congrArg Prod.snd HA.out)
  go_upto_region 4 with fail
  go_cut [4] from 46 to 74 (fun v wx => v = .bool true ∧ Below w20.heap.size w20 wx)
  case first =>
    have HS : ∀ w', Below w20.heap.size w20 w' → (fun w' => w'.cell? ⟨g, 0, none⟩ = some ra.av ∧ w'.cell? ⟨g, 1, none⟩ = some ra.wv ∧ w'.cell? ⟨g, 2, none⟩ = some rb.av ∧ w'.cell? ⟨g, 3, none⟩ = some rb.wv) w' := fun w' hb => ⟨(C3.keep hb).at_ (j := 0) rfl, (C3.keep hb).at_ (j := 1) rfl, (C3.keep hb).at_ (j := 2) rfl, (C3.keep hb).at_ (j := 3) rfl⟩
    try simp only [List.append_eq, List.cons_append, List.nil_append]
    refine wp_region_noPanic ?_
    refine wp_region_late (fun w' => w'.cell? ⟨g, 0, none⟩ = some ra.av ∧ w'.cell? ⟨g, 1, none⟩ = some ra.wv ∧ w'.cell? ⟨g, 2, none⟩ = some rb.av ∧ w'.cell? ⟨g, 3, none⟩ = some rb.wv) 30 (by kernel_rfl) (HS _ (Below.refl _ _).drew) (fun hHeld => ?_)
    obtain ⟨wd, hwd⟩ : ∃ x : World, w20.drew = x := ⟨_, rfl⟩
    have bD : Below w20.heap.size w20 wd := by rw [← hwd]; exact (Below.refl _ _).drew
    rw [hwd]
    clear hwd
    have hHeld := HS _ bD
    refine any_take (by kernel_rfl) (i := 0) (oi := _) (v := ?_) rfl rfl (by kernel_rfl) (by kernel_rfl) (by kernel_rfl) (fun _ _ _ h => h) (Or.inl ⟨by rfl, ?_⟩) hHeld ?_
    rotate_left
    · intro w' hSw; try dsimp only at hSw
      go_simp
      try with_reducible rfl
    try simp only [puts, gets]
    refine any_take (by kernel_rfl) (i := 2) (oi := _) (v := ?_) rfl rfl (by kernel_rfl) (by kernel_rfl) (by kernel_rfl) (fun _ _ _ h => h) (Or.inl ⟨by rfl, ?_⟩) hHeld ?_
    rotate_left
    · intro w' hSw; try dsimp only at hSw
      go_simp
      try with_reducible rfl
    try simp only [puts, gets]
    refine any_take (by kernel_rfl) (i := 3) (oi := _) (v := ?_) rfl rfl (by kernel_rfl) (by kernel_rfl) (by kernel_rfl) (fun _ _ _ h => h) (Or.inl ⟨by rfl, ?_⟩) hHeld ?_
    rotate_left
    · intro w' hSw; try dsimp only at hSw
      go_simp
      try with_reducible rfl
    try simp only [puts, gets]
    refine any_take (by kernel_rfl) (i := 4) (oi := _) (v := ?_) rfl rfl (by kernel_rfl) (by kernel_rfl) (by kernel_rfl) (fun _ _ _ h => h) (Or.inl ⟨by rfl, ?_⟩) hHeld ?_
    rotate_left
    · intro w' hSw; try dsimp only at hSw
      go_simp
      try with_reducible rfl
    try simp only [puts, gets]
    refine any_take (by kernel_rfl) (i := 5) (oi := _) (v := ?_) rfl rfl (by kernel_rfl) (by kernel_rfl) (by kernel_rfl) (fun _ _ _ h => h) (Or.inl ⟨by rfl, ?_⟩) hHeld ?_
    rotate_left
    · intro w' hSw; try dsimp only at hSw
      go_simp
      try with_reducible rfl
    try simp only [puts, gets]
    refine any_take (by kernel_rfl) (i := 7) (oi := _) (v := ?_) rfl rfl (by kernel_rfl) (by kernel_rfl) (by kernel_rfl) (fun _ _ _ h => h) (Or.inl ⟨by rfl, ?_⟩) hHeld ?_
    rotate_left
    · intro w' hSw; try dsimp only at hSw
      go_simp
      try with_reducible rfl
    try simp only [puts, gets]
    refine any_take (by kernel_rfl) (i := 8) (oi := _) (v := ?_) rfl rfl (by kernel_rfl) (by kernel_rfl) (by kernel_rfl) (fun _ _ _ h => h) (Or.inl ⟨by rfl, ?_⟩) hHeld ?_
    rotate_left
    · intro w' hSw; try dsimp only at hSw
      go_simp
      try with_reducible rfl
    try simp only [puts, gets]
    refine any_next (i := 1) (by kernel_rfl) rfl rfl (fun K hK => ?_)
    go_simp
    go_at_call 70
    refine (pair_any [98] (short1 98) 2 _).mono ?_
    rintro e w17 ⟨u, rfl, hP, -, bC⟩
    obtain ⟨pu, cu, rfl, -⟩ := id hP
    replace bD := below_trans bD bC
    clear bC
    refine hK.out _ _ (HS _ bD) (fun hHeld => ?_)
    clear hK K
    try simp only [puts, gets]
    refine any_next (i := 6) (by kernel_rfl) rfl rfl (fun K hK => ?_)
    go_simp
    go_at_call 27
    refine (RemoveR_any _ _ _ [ra, rb] tB [(2, 6)] _ (hT4.keep bD) (R3.keep bD) hP (by have := ((R3.2 rb (by simp)).keep bD).spans; rw [HBs.out] at this; exact this) HM.out (by decide) (by decide)).mono ?_
    rintro e w18 ⟨u, rfl, zs, RZ, OZ, bC⟩
    replace RZ := RZ.rel
    have HZ := Lib.hid (f_remove HR.out OZ)
    obtain ⟨pz, cz, rfl, -⟩ := RZ.shape
    clear hP OZ
    replace bD := below_trans bD bC
    clear bC
    refine hK.out _ _ (HS _ bD) (fun hHeld => ?_)
    clear hK K
    try simp only [puts, gets]
    refine any_next (i := 9) (by kernel_rfl) rfl rfl (fun K hK => ?_)
    go_simp
    go_at_call 24
    refine (rSameR_any _ _ zs [ra] _ RZ ((R3.keep bD).take (m := 1) (by simp))).mono ?_
    rintro e w19 ⟨rfl, bC⟩
    have hd : decide (rows zs = rows [ra]) = true := decide_eq_true (by rw [HZ.out]; show _ = [ra.rw]; rw [HA.out])
    rw [hd]
    clear hd RZ HZ
    replace bD := below_trans bD bC
    clear bC
    refine hK.out _ _ (HS _ bD) (fun hHeld => ?_)
    clear hK K
    try simp only [puts, gets]
    refine any_take (by kernel_rfl) (i := 10) (oi := _) (v := ?_) rfl rfl (by kernel_rfl) (by kernel_rfl) (by kernel_rfl) (fun _ _ _ h => h) (Or.inl ⟨by rfl, ?_⟩) hHeld ?_
    rotate_left
    · intro w' hSw; try dsimp only at hSw
      go_simp
      try with_reducible rfl
    try simp only [puts, gets]
    refine any_take (by kernel_rfl) (i := 11) (oi := _) (v := ?_) rfl rfl (by kernel_rfl) (by kernel_rfl) (by kernel_rfl) (fun _ _ _ h => h) (Or.inl ⟨by rfl, ?_⟩) hHeld ?_
    rotate_left
    · intro w' hSw; try dsimp only at hSw
      go_simp
      try with_reducible rfl
    try simp only [puts, gets]
    refine any_next (i := 12) (by kernel_rfl) rfl rfl (fun K hK => ?_)
    go_simp
    go_at_call 36
    refine (AtR_any _ [ra, rb] 3 _ (hT4.keep bD) (R3.keep bD) HM.out).mono ?_
    rintro e w20 ⟨u, rfl, ts, hts, hat, -, bC⟩
    have HTS := Lib.hid (f_at HR.out hat.out)
    replace HTS : Hid (tups ts = [tA, tB]) := Lib.hid (by have := HTS.out; exact this.trans (by decide +kernel))
    have hl : ts.length = (tups ts).length := (tups_length ts).symm
    rw [HTS.out] at hl
    obtain ⟨pt, ct, rfl, -⟩ := hts.shape
    replace hl : ts.length = 2 := hl
    rw [hl]
    clear hl hat
    replace bD := below_trans bD bC
    clear bC
    clear hts HTS
    refine hK.out _ _ (HS _ bD) (fun hHeld => ?_)
    clear hK K
    try simp only [puts, gets]
    refine any_take (by kernel_rfl) (i := 13) (oi := _) (v := ?_) rfl rfl (by kernel_rfl) (by kernel_rfl) (by kernel_rfl) (fun _ _ _ h => h) (Or.inl ⟨by rfl, ?_⟩) hHeld ?_
    rotate_left
    · intro w' hSw; try dsimp only at hSw
      go_simp
      try with_reducible rfl
    try simp only [puts, gets]
    refine any_take (by kernel_rfl) (i := 14) (oi := _) (v := ?_) rfl rfl (by kernel_rfl) (by kernel_rfl) (by kernel_rfl) (fun _ _ _ h => h) (Or.inl ⟨by rfl, ?_⟩) hHeld ?_
    rotate_left
    · intro w' hSw; try dsimp only at hSw
      go_simp
      try with_reducible rfl
    try simp only [puts, gets]
    refine any_take (by kernel_rfl) (i := 15) (oi := _) (v := ?_) rfl rfl (by kernel_rfl) (by kernel_rfl) (by kernel_rfl) (fun _ _ _ h => h) (Or.inl ⟨by rfl, ?_⟩) hHeld ?_
    rotate_left
    · intro w' hSw; try dsimp only at hSw
      go_simp
      try with_reducible rfl
    try simp only [puts, gets]
    refine any_take (by kernel_rfl) (i := 16) (oi := _) (v := ?_) rfl rfl (by kernel_rfl) (by kernel_rfl) (by kernel_rfl) (fun _ _ _ h => h) (Or.inl ⟨by rfl, ?_⟩) hHeld ?_
    rotate_left
    · intro w' hSw; try dsimp only at hSw
      go_simp
      try with_reducible rfl
    try simp only [puts, gets]
    refine any_take (by kernel_rfl) (i := 17) (oi := _) (v := ?_) rfl rfl (by kernel_rfl) (by kernel_rfl) (by kernel_rfl) (fun _ _ _ h => h) (Or.inl ⟨by rfl, ?_⟩) hHeld ?_
    rotate_left
    · intro w' hSw; try dsimp only at hSw
      go_simp
      try with_reducible rfl
    try simp only [puts, gets]
    refine any_next (i := 18) (by kernel_rfl) rfl rfl (fun K hK => ?_)
    go_simp
    go_at_call 36
    refine (AtR_any _ [ra, rb] 5 _ (hT4.keep bD) (R3.keep bD) HM.out).mono ?_
    rintro e w21 ⟨u, rfl, ts, hts, hat, -, bC⟩
    have HTS := Lib.hid (f_at HR.out hat.out)
    replace HTS : Hid (tups ts = [tB]) := Lib.hid (by have := HTS.out; exact this.trans (by decide +kernel))
    have hl : ts.length = (tups ts).length := (tups_length ts).symm
    rw [HTS.out] at hl
    obtain ⟨pt, ct, rfl, -⟩ := hts.shape
    replace hl : ts.length = 1 := hl
    skip
    clear hl hat
    replace bD := below_trans bD bC
    clear bC
    refine hK.out _ _ (HS _ bD) (fun hHeld => ?_)
    clear hK K
    try simp only [puts, gets]
    refine any_next (i := 19) (by kernel_rfl) rfl rfl (fun K hK => ?_)
    go_simp
    go_at_call 70
    refine (pair_any [98] (short1 98) 2 _).mono ?_
    rintro e w22 ⟨u, rfl, hP, -, bC⟩
    obtain ⟨pu, cu, rfl, -⟩ := id hP
    replace hts := hts.keep bC
    replace bD := below_trans bD bC
    clear bC
    refine hK.out _ _ (HS _ bD) (fun hHeld => ?_)
    clear hK K
    try simp only [puts, gets]
    refine any_next (i := 20) (by kernel_rfl) rfl rfl (fun K hK => ?_)
    go_simp
    have bC := below_new w22 (.cells #[.slice pu (List.length tB) cu] 25)
    have hTL : IsTups (w22.alloc (.cells #[.slice pu (List.length tB) cu] 25)) (.slice (some ⟨w22.heap.size, 0, none⟩) 1 1) [⟨pu, cu, tB⟩] := ⟨IsRows.lit w22 [(⟨pu, cu, tB⟩ : TT)] encsT (by simp), fun x hx => by rw [List.mem_singleton.1 hx]; exact hP.keep bC⟩
    obtain ⟨w23, hw⟩ : ∃ z, w22.alloc (.cells #[.slice pu (List.length tB) cu] 25) = z := ⟨_, rfl⟩
    rw [hw] at bC hTL
    rw [hw]
    clear hw
    replace hts := hts.keep bC
    replace bD := below_trans bD bC
    clear bC
    clear hP
    refine hK.out _ _ (HS _ bD) (fun hHeld => ?_)
    clear hK K
    try simp only [puts, gets]
    refine any_next (i := 21) (by kernel_rfl) rfl rfl (fun K hK => ?_)
    go_simp
    go_at_call 35
    refine (rSameT_any _ _ ts [⟨pu, cu, tB⟩] _ hts hTL).mono ?_
    rintro e w24 ⟨rfl, bC⟩
    have hd : decide (tups ts = tups [(⟨pu, cu, tB⟩ : TT)]) = true := decide_eq_true (by rw [HTS.out]; rfl)
    rw [hd]
    clear hd hts hTL HTS
    replace bD := below_trans bD bC
    clear bC
    refine hK.out _ _ (HS _ bD) (fun hHeld => ?_)
    clear hK K
    try simp only [puts, gets]
    refine any_take (by kernel_rfl) (i := 22) (oi := _) (v := ?_) rfl rfl (by kernel_rfl) (by kernel_rfl) (by kernel_rfl) (fun _ _ _ h => h) (Or.inl ⟨by rfl, ?_⟩) hHeld ?_
    rotate_left
    · intro w' hSw; try dsimp only at hSw
      go_simp
      try with_reducible rfl
    try simp only [puts, gets]
    refine any_take (by kernel_rfl) (i := 23) (oi := _) (v := ?_) rfl rfl (by kernel_rfl) (by kernel_rfl) (by kernel_rfl) (fun _ _ _ h => h) (Or.inl ⟨by rfl, ?_⟩) hHeld ?_
    rotate_left
    · intro w' hSw; try dsimp only at hSw
      go_simp
      try with_reducible rfl
    try simp only [puts, gets]
    refine any_take (by kernel_rfl) (i := 24) (oi := _) (v := ?_) rfl rfl (by kernel_rfl) (by kernel_rfl) (by kernel_rfl) (fun _ _ _ h => h) (Or.inl ⟨by rfl, ?_⟩) hHeld ?_
    rotate_left
    · intro w' hSw; try dsimp only at hSw
      go_simp
      try with_reducible rfl
    try simp only [puts, gets]
    refine any_next (i := 25) (by kernel_rfl) rfl rfl (fun K hK => ?_)
    go_simp
    go_at_call 36
    refine (AtR_any _ [ra, rb] 70 _ (hT4.keep bD) (R3.keep bD) HM.out).mono ?_
    rintro e w25 ⟨u, rfl, ts, hts, hat, -, bC⟩
    have HTS := Lib.hid (f_at HR.out hat.out)
    replace HTS : Hid (tups ts = []) := Lib.hid (by have := HTS.out; exact this.trans (by decide +kernel))
    have hl : ts.length = (tups ts).length := (tups_length ts).symm
    rw [HTS.out] at hl
    obtain ⟨pt, ct, rfl, -⟩ := hts.shape
    replace hl : ts.length = 0 := hl
    rw [hl]
    clear hl hat
    replace bD := below_trans bD bC
    clear bC
    clear hts HTS
    refine hK.out _ _ (HS _ bD) (fun hHeld => ?_)
    clear hK K
    try simp only [puts, gets]
    refine any_take (by kernel_rfl) (i := 26) (oi := _) (v := ?_) rfl rfl (by kernel_rfl) (by kernel_rfl) (by kernel_rfl) (fun _ _ _ h => h) (Or.inl ⟨by rfl, ?_⟩) hHeld ?_
    rotate_left
    · intro w' hSw; try dsimp only at hSw
      go_simp
      try with_reducible rfl
    try simp only [puts, gets]
    refine any_take (by kernel_rfl) (i := 27) (oi := _) (v := ?_) rfl rfl (by kernel_rfl) (by kernel_rfl) (by kernel_rfl) (fun _ _ _ h => h) (Or.inl ⟨by rfl, ?_⟩) hHeld ?_
    rotate_left
    · intro w' hSw; try dsimp only at hSw
      go_simp
      try with_reducible rfl
    try simp only [puts, gets]
    refine any_take (by kernel_rfl) (i := 28) (oi := _) (v := ?_) rfl rfl (by kernel_rfl) (by kernel_rfl) (by kernel_rfl) (fun _ _ _ h => h) (Or.inl ⟨by rfl, ?_⟩) hHeld ?_
    rotate_left
    · intro w' hSw; try dsimp only at hSw
      go_simp
      try with_reducible rfl
    try simp only [puts, gets]
    refine any_take (by kernel_rfl) (i := 29) (oi := _) (v := ?_) rfl rfl (by kernel_rfl) (by kernel_rfl) (by kernel_rfl) (fun _ _ _ h => h) (Or.inl ⟨by rfl, ?_⟩) hHeld ?_
    rotate_left
    · intro w' hSw; try dsimp only at hSw
      go_simp
      try with_reducible rfl
    try simp only [puts, gets]
    refine any_done (by kernel_rfl) ?_ _
    refine NoPanic.normal ?_
    go_wp2
    go_meet
    case rel => exact ⟨rfl, bD⟩
  case rest =>
  obtain ⟨rfl, bR⟩ := hcut
  obtain ⟨w40, hnew⟩ : ∃ x, wc = x := ⟨_, rfl⟩
  rw [hnew] at bR
  rw [hnew]
  clear hnew
  replace R3 := R3.keep bR
  replace C3 := C3.keep bR
  replace I4 := I4.keep bR
  replace C4 := C4.keep bR
  replace I5 := I5.keep bR
  replace hT4 := hT4.keep bR
  replace BB := below_trans BB bR
  clear bR
  have HRA : Hid (rows [ra] = [(tA, [(0, 4)])]) := Lib.hid (by show [ra.rw] = _; rw [HA.out])
  have HRB : Hid (rows [rb] = [(tB, [(2, 6)])]) := Lib.hid (by show [rb.rw] = _; rw [HB.out])
  have RT : IsRel w40 (.slice (some ⟨g, 2, none⟩) 1 1) [rb] := by have := R3.tail; simpa using this
  have HM1 : Hid (Sml 10000 [ra]) := Lib.hid ⟨by simp, fun x hx => HM.out.each x (by rw [List.mem_singleton.1 hx]; simp)⟩
  have HM2 : Hid (Sml 10000 [rb]) := Lib.hid ⟨by simp, fun x hx => HM.out.each x (by rw [List.mem_singleton.1 hx]; simp)⟩
  go_upto_region 5 with fail
  go_cut [5] from 75 to 110 (fun v wx => v = .bool true ∧ Below w40.heap.size w40 wx)
  case first =>
    have HS : ∀ w', Below w40.heap.size w40 w' → (fun w' => w'.cell? ⟨g, 0, none⟩ = some ra.av ∧ w'.cell? ⟨g, 1, none⟩ = some ra.wv ∧ w'.cell? ⟨g, 2, none⟩ = some rb.av ∧ w'.cell? ⟨g, 3, none⟩ = some rb.wv) w' := fun w' hb => ⟨(C3.keep hb).at_ (j := 0) rfl, (C3.keep hb).at_ (j := 1) rfl, (C3.keep hb).at_ (j := 2) rfl, (C3.keep hb).at_ (j := 3) rfl⟩
    try simp only [List.append_eq, List.cons_append, List.nil_append]
    refine wp_region_noPanic ?_
    refine wp_region_late (fun w' => w'.cell? ⟨g, 0, none⟩ = some ra.av ∧ w'.cell? ⟨g, 1, none⟩ = some ra.wv ∧ w'.cell? ⟨g, 2, none⟩ = some rb.av ∧ w'.cell? ⟨g, 3, none⟩ = some rb.wv) 37 (by kernel_rfl) (HS _ (Below.refl _ _).drew) (fun hHeld => ?_)
    obtain ⟨wd, hwd⟩ : ∃ x : World, w40.drew = x := ⟨_, rfl⟩
    have bD : Below w40.heap.size w40 wd := by rw [← hwd]; exact (Below.refl _ _).drew
    rw [hwd]
    clear hwd
    have hHeld := HS _ bD
    refine any_take (by kernel_rfl) (i := 0) (oi := _) (v := ?_) rfl rfl (by kernel_rfl) (by kernel_rfl) (by kernel_rfl) (fun _ _ _ h => h) (Or.inl ⟨by rfl, ?_⟩) hHeld ?_
    rotate_left
    · intro w' hSw; try dsimp only at hSw
      go_simp
      try with_reducible rfl
    try simp only [puts, gets]
    refine any_take (by kernel_rfl) (i := 1) (oi := _) (v := ?_) rfl rfl (by kernel_rfl) (by kernel_rfl) (by kernel_rfl) (fun _ _ _ h => h) (Or.inl ⟨by rfl, ?_⟩) hHeld ?_
    rotate_left
    · intro w' hSw; try dsimp only at hSw
      go_simp
      try with_reducible rfl
    try simp only [puts, gets]
    refine any_take (by kernel_rfl) (i := 6) (oi := _) (v := ?_) rfl rfl (by kernel_rfl) (by kernel_rfl) (by kernel_rfl) (fun _ _ _ h => h) (Or.inl ⟨by rfl, ?_⟩) hHeld ?_
    rotate_left
    · intro w' hSw; try dsimp only at hSw
      go_simp
      try with_reducible rfl
    try simp only [puts, gets]
    refine any_take (by kernel_rfl) (i := 7) (oi := _) (v := ?_) rfl rfl (by kernel_rfl) (by kernel_rfl) (by kernel_rfl) (fun _ _ _ h => h) (Or.inl ⟨by rfl, ?_⟩) hHeld ?_
    rotate_left
    · intro w' hSw; try dsimp only at hSw
      go_simp
      try with_reducible rfl
    try simp only [puts, gets]
    refine any_next (i := 2) (by kernel_rfl) rfl rfl (fun K hK => ?_)
    go_simp
    go_at_call 71
    refine (Int_any 2 _).mono ?_
    rintro e w26 ⟨rfl, bC⟩
    replace bD := below_trans bD bC
    clear bC
    refine hK.out _ _ (HS _ bD) (fun hHeld => ?_)
    clear hK K
    try simp only [puts, gets]
    refine any_take (by kernel_rfl) (i := 3) (oi := _) (v := ?_) rfl rfl (by kernel_rfl) (by kernel_rfl) (by kernel_rfl) (fun _ _ _ h => h) (Or.inl ⟨by rfl, ?_⟩) hHeld ?_
    rotate_left
    · intro w' hSw; try dsimp only at hSw
      go_simp
      try with_reducible rfl
    try simp only [puts, gets]
    refine any_next (i := 4) (by kernel_rfl) rfl rfl (fun K hK => ?_)
    go_simp
    have bC := below_new w26 (.cells #[strV [88], .int .i64 0, .int .i64 0, strV [], strV [], .int .i64 1, .int .i64 2, strV []] 60)
    have hTm : IsTerms (w26.alloc (.cells #[strV [88], .int .i64 0, .int .i64 0, strV [], strV [], .int .i64 1, .int .i64 2, strV []] 60)) (.slice (some ⟨w26.heap.size, 0, none⟩) 2 2) [tmX, tmC (intVl 2)] := IsRows.lit w26 [tmX, tmC (intVl 2)] encsTm (by simp)
    obtain ⟨w27, hw⟩ : ∃ z, w26.alloc (.cells #[strV [88], .int .i64 0, .int .i64 0, strV [], strV [], .int .i64 1, .int .i64 2, strV []] 60) = z := ⟨_, rfl⟩
    rw [hw] at bC hTm
    rw [hw]
    clear hw
    replace bD := below_trans bD bC
    clear bC
    refine hK.out _ _ (HS _ bD) (fun hHeld => ?_)
    clear hK K
    try simp only [puts, gets]
    refine any_next (i := 5) (by kernel_rfl) rfl rfl (fun K hK => ?_)
    go_simp
    go_at_call 39
    refine (SelectR_any _ _ [ra, rb] [tmX, tmC (intVl 2)] _ (hT4.keep bD) (R3.keep bD) hTm HM.out).mono ?_
    rintro e w28 ⟨u, rfl, zs, RZ, OZ, bC⟩
    replace RZ := RZ.rel
    have HZ := Lib.hid (f_select HR.out OZ)
    obtain ⟨pz, cz, rfl, -⟩ := RZ.shape
    clear OZ hTm
    replace bD := below_trans bD bC
    clear bC
    refine hK.out _ _ (HS _ bD) (fun hHeld => ?_)
    clear hK K
    try simp only [puts, gets]
    refine any_next (i := 8) (by kernel_rfl) rfl rfl (fun K hK => ?_)
    go_simp
    go_at_call 24
    refine (rSameR_any _ _ zs [rb] _ RZ (RT.keep bD)).mono ?_
    rintro e w29 ⟨rfl, bC⟩
    have hd : decide (rows zs = rows [rb]) = true := decide_eq_true (by rw [HZ.out]; show _ = [rb.rw]; rw [HB.out])
    rw [hd]
    clear hd RZ HZ
    replace bD := below_trans bD bC
    clear bC
    refine hK.out _ _ (HS _ bD) (fun hHeld => ?_)
    clear hK K
    try simp only [puts, gets]
    refine any_take (by kernel_rfl) (i := 9) (oi := _) (v := ?_) rfl rfl (by kernel_rfl) (by kernel_rfl) (by kernel_rfl) (fun _ _ _ h => h) (Or.inl ⟨by rfl, ?_⟩) hHeld ?_
    rotate_left
    · intro w' hSw; try dsimp only at hSw
      go_simp
      try with_reducible rfl
    try simp only [puts, gets]
    refine any_take (by kernel_rfl) (i := 10) (oi := _) (v := ?_) rfl rfl (by kernel_rfl) (by kernel_rfl) (by kernel_rfl) (fun _ _ _ h => h) (Or.inl ⟨by rfl, ?_⟩) hHeld ?_
    rotate_left
    · intro w' hSw; try dsimp only at hSw
      go_simp
      try with_reducible rfl
    try simp only [puts, gets]
    refine any_take (by kernel_rfl) (i := 11) (oi := _) (v := ?_) rfl rfl (by kernel_rfl) (by kernel_rfl) (by kernel_rfl) (fun _ _ _ h => h) (Or.inl ⟨by rfl, ?_⟩) hHeld ?_
    rotate_left
    · intro w' hSw; try dsimp only at hSw
      go_simp
      try with_reducible rfl
    try simp only [puts, gets]
    refine any_take (by kernel_rfl) (i := 12) (oi := _) (v := ?_) rfl rfl (by kernel_rfl) (by kernel_rfl) (by kernel_rfl) (fun _ _ _ h => h) (Or.inl ⟨by rfl, ?_⟩) hHeld ?_
    rotate_left
    · intro w' hSw; try dsimp only at hSw
      go_simp
      try with_reducible rfl
    try simp only [puts, gets]
    refine any_next (i := 13) (by kernel_rfl) rfl rfl (fun K hK => ?_)
    go_simp
    have bC := below_new w29 (.cells #[strV [88], .int .i64 0, .int .i64 0, strV [], strV [88], .int .i64 0, .int .i64 0, strV []] 60)
    have hTm : IsTerms (w29.alloc (.cells #[strV [88], .int .i64 0, .int .i64 0, strV [], strV [88], .int .i64 0, .int .i64 0, strV []] 60)) (.slice (some ⟨w29.heap.size, 0, none⟩) 2 2) [tmX, tmX] := IsRows.lit w29 [tmX, tmX] encsTm (by simp)
    obtain ⟨w30, hw⟩ : ∃ z, w29.alloc (.cells #[strV [88], .int .i64 0, .int .i64 0, strV [], strV [88], .int .i64 0, .int .i64 0, strV []] 60) = z := ⟨_, rfl⟩
    rw [hw] at bC hTm
    rw [hw]
    clear hw
    replace bD := below_trans bD bC
    clear bC
    refine hK.out _ _ (HS _ bD) (fun hHeld => ?_)
    clear hK K
    try simp only [puts, gets]
    refine any_next (i := 14) (by kernel_rfl) rfl rfl (fun K hK => ?_)
    go_simp
    go_at_call 39
    refine (SelectR_any _ _ [ra, rb] [tmX, tmX] _ (hT4.keep bD) (R3.keep bD) hTm HM.out).mono ?_
    rintro e w31 ⟨u, rfl, zs, RZ, OZ, bC⟩
    replace RZ := RZ.rel
    have hz := congrArg List.length (f_select2 HR.out OZ)
    rw [rows_length] at hz
    obtain ⟨pz, cz, rfl, -⟩ := RZ.shape
    replace hz : zs.length = 0 := hz
    rw [hz]
    clear hz RZ OZ
    clear hTm
    replace bD := below_trans bD bC
    clear bC
    refine hK.out _ _ (HS _ bD) (fun hHeld => ?_)
    clear hK K
    try simp only [puts, gets]
    refine any_take (by kernel_rfl) (i := 15) (oi := _) (v := ?_) rfl rfl (by kernel_rfl) (by kernel_rfl) (by kernel_rfl) (fun _ _ _ h => h) (Or.inl ⟨by rfl, ?_⟩) hHeld ?_
    rotate_left
    · intro w' hSw; try dsimp only at hSw
      go_simp
      try with_reducible rfl
    try simp only [puts, gets]
    refine any_take (by kernel_rfl) (i := 16) (oi := _) (v := ?_) rfl rfl (by kernel_rfl) (by kernel_rfl) (by kernel_rfl) (fun _ _ _ h => h) (Or.inl ⟨by rfl, ?_⟩) hHeld ?_
    rotate_left
    · intro w' hSw; try dsimp only at hSw
      go_simp
      try with_reducible rfl
    try simp only [puts, gets]
    refine any_take (by kernel_rfl) (i := 17) (oi := _) (v := ?_) rfl rfl (by kernel_rfl) (by kernel_rfl) (by kernel_rfl) (fun _ _ _ h => h) (Or.inl ⟨by rfl, ?_⟩) hHeld ?_
    rotate_left
    · intro w' hSw; try dsimp only at hSw
      go_simp
      try with_reducible rfl
    try simp only [puts, gets]
    refine any_take (by kernel_rfl) (i := 18) (oi := _) (v := ?_) rfl rfl (by kernel_rfl) (by kernel_rfl) (by kernel_rfl) (fun _ _ _ h => h) (Or.inl ⟨by rfl, ?_⟩) hHeld ?_
    rotate_left
    · intro w' hSw; try dsimp only at hSw
      go_simp
      try with_reducible rfl
    try simp only [puts, gets]
    refine any_take (by kernel_rfl) (i := 19) (oi := _) (v := ?_) rfl rfl (by kernel_rfl) (by kernel_rfl) (by kernel_rfl) (fun _ _ _ h => h) (Or.inl ⟨by rfl, ?_⟩) hHeld ?_
    rotate_left
    · intro w' hSw; try dsimp only at hSw
      go_simp
      try with_reducible rfl
    try simp only [puts, gets]
    refine any_take (by kernel_rfl) (i := 20) (oi := _) (v := ?_) rfl rfl (by kernel_rfl) (by kernel_rfl) (by kernel_rfl) (fun _ _ _ h => h) (Or.inl ⟨by rfl, ?_⟩) hHeld ?_
    rotate_left
    · intro w' hSw; try dsimp only at hSw
      go_simp
      try with_reducible rfl
    try simp only [puts, gets]
    refine any_take (by kernel_rfl) (i := 21) (oi := _) (v := ?_) rfl rfl (by kernel_rfl) (by kernel_rfl) (by kernel_rfl) (fun _ _ _ h => h) (Or.inl ⟨by rfl, ?_⟩) hHeld ?_
    rotate_left
    · intro w' hSw; try dsimp only at hSw
      go_simp
      try with_reducible rfl
    try simp only [puts, gets]
    refine any_take (by kernel_rfl) (i := 22) (oi := _) (v := ?_) rfl rfl (by kernel_rfl) (by kernel_rfl) (by kernel_rfl) (fun _ _ _ h => h) (Or.inl ⟨by rfl, ?_⟩) hHeld ?_
    rotate_left
    · intro w' hSw; try dsimp only at hSw
      go_simp
      try with_reducible rfl
    try simp only [puts, gets]
    refine any_take (by kernel_rfl) (i := 24) (oi := _) (v := ?_) rfl rfl (by kernel_rfl) (by kernel_rfl) (by kernel_rfl) (fun _ _ _ h => h) (Or.inl ⟨by rfl, ?_⟩) hHeld ?_
    rotate_left
    · intro w' hSw; try dsimp only at hSw
      go_simp
      try with_reducible rfl
    try simp only [puts, gets]
    refine any_next (i := 23) (by kernel_rfl) rfl rfl (fun K hK => ?_)
    go_simp
    go_at_call 29
    refine (UnionR_any _ _ [rb] [ra] _ (hT4.keep bD) (RT.keep bD) ((R3.keep bD).take (m := 1) (by simp)) HM2.out HM1.out).mono ?_
    rintro e w32 ⟨u, rfl, zs, RZ, OZ, bC⟩
    replace RZ := RZ.rel
    have HZ := Lib.hid (f_union HRB.out HRA.out OZ)
    obtain ⟨pz, cz, rfl, -⟩ := RZ.shape
    clear OZ
    replace bD := below_trans bD bC
    clear bC
    refine hK.out _ _ (HS _ bD) (fun hHeld => ?_)
    clear hK K
    try simp only [puts, gets]
    refine any_next (i := 25) (by kernel_rfl) rfl rfl (fun K hK => ?_)
    go_simp
    go_at_call 24
    refine (rSameR_any _ _ zs [ra, rb] _ RZ (R3.keep bD)).mono ?_
    rintro e w33 ⟨rfl, bC⟩
    have hd : decide (rows zs = rows [ra, rb]) = true := decide_eq_true (by rw [HZ.out, HR.out])
    rw [hd]
    clear hd RZ HZ
    replace bD := below_trans bD bC
    clear bC
    refine hK.out _ _ (HS _ bD) (fun hHeld => ?_)
    clear hK K
    try simp only [puts, gets]
    refine any_take (by kernel_rfl) (i := 26) (oi := _) (v := ?_) rfl rfl (by kernel_rfl) (by kernel_rfl) (by kernel_rfl) (fun _ _ _ h => h) (Or.inl ⟨by rfl, ?_⟩) hHeld ?_
    rotate_left
    · intro w' hSw; try dsimp only at hSw
      go_simp
      try with_reducible rfl
    try simp only [puts, gets]
    refine any_take (by kernel_rfl) (i := 27) (oi := _) (v := ?_) rfl rfl (by kernel_rfl) (by kernel_rfl) (by kernel_rfl) (fun _ _ _ h => h) (Or.inl ⟨by rfl, ?_⟩) hHeld ?_
    rotate_left
    · intro w' hSw; try dsimp only at hSw
      go_simp
      try with_reducible rfl
    try simp only [puts, gets]
    refine any_take (by kernel_rfl) (i := 28) (oi := _) (v := ?_) rfl rfl (by kernel_rfl) (by kernel_rfl) (by kernel_rfl) (fun _ _ _ h => h) (Or.inl ⟨by rfl, ?_⟩) hHeld ?_
    rotate_left
    · intro w' hSw; try dsimp only at hSw
      go_simp
      try with_reducible rfl
    try simp only [puts, gets]
    refine any_take (by kernel_rfl) (i := 29) (oi := _) (v := ?_) rfl rfl (by kernel_rfl) (by kernel_rfl) (by kernel_rfl) (fun _ _ _ h => h) (Or.inl ⟨by rfl, ?_⟩) hHeld ?_
    rotate_left
    · intro w' hSw; try dsimp only at hSw
      go_simp
      try with_reducible rfl
    try simp only [puts, gets]
    refine any_take (by kernel_rfl) (i := 30) (oi := _) (v := ?_) rfl rfl (by kernel_rfl) (by kernel_rfl) (by kernel_rfl) (fun _ _ _ h => h) (Or.inl ⟨by rfl, ?_⟩) hHeld ?_
    rotate_left
    · intro w' hSw; try dsimp only at hSw
      go_simp
      try with_reducible rfl
    try simp only [puts, gets]
    refine any_take (by kernel_rfl) (i := 31) (oi := _) (v := ?_) rfl rfl (by kernel_rfl) (by kernel_rfl) (by kernel_rfl) (fun _ _ _ h => h) (Or.inl ⟨by rfl, ?_⟩) hHeld ?_
    rotate_left
    · intro w' hSw; try dsimp only at hSw
      go_simp
      try with_reducible rfl
    try simp only [puts, gets]
    refine any_next (i := 32) (by kernel_rfl) rfl rfl (fun K hK => ?_)
    go_simp
    go_at_call 31
    refine (MeetR_any _ _ [ra] [rb] _ (hT4.keep bD) ((R3.keep bD).take (m := 1) (by simp)) (RT.keep bD) HM1.out HM2.out).mono ?_
    rintro e w34 ⟨u, rfl, zs, RZ, OZ, bC⟩
    replace RZ := RZ.rel
    have hz := congrArg List.length (f_meet HRA.out HRB.out OZ)
    rw [rows_length] at hz
    obtain ⟨pz, cz, rfl, -⟩ := RZ.shape
    replace hz : zs.length = 0 := hz
    rw [hz]
    clear hz RZ OZ
    replace bD := below_trans bD bC
    clear bC
    refine hK.out _ _ (HS _ bD) (fun hHeld => ?_)
    clear hK K
    try simp only [puts, gets]
    refine any_take (by kernel_rfl) (i := 33) (oi := _) (v := ?_) rfl rfl (by kernel_rfl) (by kernel_rfl) (by kernel_rfl) (fun _ _ _ h => h) (Or.inl ⟨by rfl, ?_⟩) hHeld ?_
    rotate_left
    · intro w' hSw; try dsimp only at hSw
      go_simp
      try with_reducible rfl
    try simp only [puts, gets]
    refine any_take (by kernel_rfl) (i := 34) (oi := _) (v := ?_) rfl rfl (by kernel_rfl) (by kernel_rfl) (by kernel_rfl) (fun _ _ _ h => h) (Or.inl ⟨by rfl, ?_⟩) hHeld ?_
    rotate_left
    · intro w' hSw; try dsimp only at hSw
      go_simp
      try with_reducible rfl
    try simp only [puts, gets]
    refine any_take (by kernel_rfl) (i := 35) (oi := _) (v := ?_) rfl rfl (by kernel_rfl) (by kernel_rfl) (by kernel_rfl) (fun _ _ _ h => h) (Or.inl ⟨by rfl, ?_⟩) hHeld ?_
    rotate_left
    · intro w' hSw; try dsimp only at hSw
      go_simp
      try with_reducible rfl
    try simp only [puts, gets]
    refine any_take (by kernel_rfl) (i := 36) (oi := _) (v := ?_) rfl rfl (by kernel_rfl) (by kernel_rfl) (by kernel_rfl) (fun _ _ _ h => h) (Or.inl ⟨by rfl, ?_⟩) hHeld ?_
    rotate_left
    · intro w' hSw; try dsimp only at hSw
      go_simp
      try with_reducible rfl
    try simp only [puts, gets]
    refine any_done (by kernel_rfl) ?_ _
    refine NoPanic.normal ?_
    go_wp2
    go_meet
    case rel => exact ⟨rfl, bD⟩
  case rest =>
  obtain ⟨rfl, bR⟩ := hcut
  obtain ⟨w60, hnew⟩ : ∃ x, wc = x := ⟨_, rfl⟩
  rw [hnew] at bR
  rw [hnew]
  clear hnew
  replace R3 := R3.keep bR
  replace C3 := C3.keep bR
  replace I4 := I4.keep bR
  replace C4 := C4.keep bR
  replace I5 := I5.keep bR
  replace RT := RT.keep bR
  replace hT4 := hT4.keep bR
  replace BB := below_trans BB bR
  clear bR
  go_wp2_with fail
  refine (row_any [97] (short1 97) 1 1 2 _).mono ?_
  rintro e w61 ⟨rc, rfl, okc, ec, B61⟩
  unfold rowV
  have B62 := below_new w61 (.cells #[rc.av, rc.wv] 44)
  have RC : IsRel (w61.alloc (.cells #[rc.av, rc.wv] 44)) (.slice (some ⟨w61.heap.size, 0, none⟩) 1 1) [rc] := isRel_lit (l := [rc]) (by simp) (fun x hx => by rw [List.mem_singleton.1 hx]; exact okc)
  have B612 := below_trans B61 B62
  have HMC : Hid (Sml 10000 [rc]) := Lib.hid ⟨by simp, fun x hx => by
    have h1 : rc.t = tA := congrArg Prod.fst ec
    have h3 : rc.s = [(1, 2)] := congrArg Prod.snd ec
    rw [List.mem_singleton.1 hx, h1, h3]; decide⟩
  have HC := Lib.hid ec
  clear ec okc
  go_wp2_with fail
  refine (MinusR_any _ _ [ra, rb] [rc] _ (hT4.keep B612) (R3.keep B612) RC HM.out HMC.out).mono ?_
  rintro e w63 ⟨u, rfl, zs, RZ, OZ, B63⟩
  have hrc : rows [rc] = [(tA, [(1, 2)])] := by show [rc.rw] = _; rw [HC.out]
  have HZ := Lib.hid (f_minus HR.out hrc OZ)
  clear hrc
  replace RZ := RZ.rel
  have hz : zs.length = 2 := by have := congrArg List.length HZ.out; rwa [rows_length] at this
  obtain ⟨pz, cz, rfl, -⟩ := RZ.shape
  rw [hz] at RZ
  rw [hz]
  have HZL := Lib.hid hz
  clear hz RC OZ
  obtain ⟨x, y, hxy⟩ : ∃ x y, zs = [x, y] := by
    have := HZL.out
    rcases zs with _ | ⟨x, _ | ⟨y, _ | ⟨z, r⟩⟩⟩
    · cases this
    · cases this
    · exact ⟨x, y, rfl⟩
    · simp at this
  subst hxy
  have HXS : Hid (x.s = [(0, 1), (2, 4)]) := Lib.hid (by have := HZ.out; injection this with h1 _; exact congrArg Prod.snd h1)
  have bR := below_trans B612 B63
  clear B61 B62 B612 B63
  replace R3 := R3.keep bR
  replace C3 := C3.keep bR
  replace RT := RT.keep bR
  replace hT4 := hT4.keep bR
  replace BB := below_trans BB bR
  clear bR I4 C4 I5
  obtain ⟨zb, zo, hpz, z0, z1, okx⟩ := RZ.at_ (i := 0) rfl
  subst hpz
  simp only [Nat.zero_mul, Nat.add_zero] at z0 z1
  go_upto_region 7 with fail
  have HS : ∀ w', Below w63.heap.size w63 w' → (fun w' => w'.cell? ⟨g, 2, none⟩ = some rb.av ∧ w'.cell? ⟨g, 3, none⟩ = some rb.wv ∧ w'.cell? ⟨zb, zo, none⟩ = some x.av ∧ w'.cell? ⟨zb, zo + 1, none⟩ = some x.wv) w' := fun w' hb => ⟨(C3.keep hb).at_ (j := 2) rfl, (C3.keep hb).at_ (j := 3) rfl, cell_keep hb z0, cell_keep hb z1⟩
  try simp only [List.append_eq, List.cons_append, List.nil_append]
  refine wp_region_noPanic ?_
  refine wp_region_late (fun w' => w'.cell? ⟨g, 2, none⟩ = some rb.av ∧ w'.cell? ⟨g, 3, none⟩ = some rb.wv ∧ w'.cell? ⟨zb, zo, none⟩ = some x.av ∧ w'.cell? ⟨zb, zo + 1, none⟩ = some x.wv) 33 (by kernel_rfl) (HS _ (Below.refl _ _).drew) (fun hHeld => ?_)
  obtain ⟨wd, hwd⟩ : ∃ x : World, w63.drew = x := ⟨_, rfl⟩
  have bD : Below w63.heap.size w63 wd := by rw [← hwd]; exact (Below.refl _ _).drew
  rw [hwd]
  clear hwd
  have hHeld := HS _ bD
  refine any_take (by kernel_rfl) (i := 0) (oi := _) (v := ?_) rfl rfl (by kernel_rfl) (by kernel_rfl) (by kernel_rfl) (fun _ _ _ h => h) (Or.inl ⟨by rfl, ?_⟩) hHeld ?_
  rotate_left
  · intro w' hSw; try dsimp only at hSw
    go_simp
    try with_reducible rfl
  try simp only [puts, gets]
  refine any_take (by kernel_rfl) (i := 1) (oi := _) (v := ?_) rfl rfl (by kernel_rfl) (by kernel_rfl) (by kernel_rfl) (fun _ _ _ h => h) (Or.inl ⟨by rfl, ?_⟩) hHeld ?_
  rotate_left
  · intro w' hSw; try dsimp only at hSw
    go_simp
    try with_reducible rfl
  try simp only [puts, gets]
  refine any_take (by kernel_rfl) (i := 2) (oi := _) (v := ?_) rfl rfl (by kernel_rfl) (by kernel_rfl) (by kernel_rfl) (fun _ _ _ h => h) (Or.inl ⟨by rfl, ?_⟩) hHeld ?_
  rotate_left
  · intro w' hSw; try dsimp only at hSw
    go_simp
    try with_reducible rfl
  try simp only [puts, gets]
  refine any_take (by kernel_rfl) (i := 3) (oi := _) (v := ?_) rfl rfl (by kernel_rfl) (by kernel_rfl) (by kernel_rfl) (fun _ _ _ h => h) (Or.inl ⟨by rfl, ?_⟩) hHeld ?_
  rotate_left
  · intro w' hSw; try dsimp only at hSw
    go_simp
    try with_reducible rfl
  try simp only [puts, gets]
  refine any_take (by kernel_rfl) (i := 4) (oi := _) (v := ?_) rfl rfl (by kernel_rfl) (by kernel_rfl) (by kernel_rfl) (fun _ _ _ h => h) (Or.inl ⟨by rfl, ?_⟩) hHeld ?_
  rotate_left
  · intro w' hSw; try dsimp only at hSw
    go_simp
    try with_reducible rfl
  try simp only [puts, gets]
  refine any_take (by kernel_rfl) (i := 5) (oi := _) (v := ?_) rfl rfl (by kernel_rfl) (by kernel_rfl) (by kernel_rfl) (fun _ _ _ h => h) (Or.inl ⟨by rfl, ?_⟩) hHeld ?_
  rotate_left
  · intro w' hSw; try dsimp only at hSw
    go_simp
    try with_reducible rfl
  try simp only [puts, gets]
  refine any_take (by kernel_rfl) (i := 6) (oi := _) (v := ?_) rfl rfl (by kernel_rfl) (by kernel_rfl) (by kernel_rfl) (fun _ _ _ h => h) (Or.inl ⟨by rfl, ?_⟩) hHeld ?_
  rotate_left
  · intro w' hSw; try dsimp only at hSw
    go_simp
    try with_reducible rfl
  try simp only [puts, gets]
  refine any_take (by kernel_rfl) (i := 7) (oi := _) (v := ?_) rfl rfl (by kernel_rfl) (by kernel_rfl) (by kernel_rfl) (fun _ _ _ h => h) (Or.inl ⟨by rfl, ?_⟩) hHeld ?_
  rotate_left
  · intro w' hSw; try dsimp only at hSw
    go_simp
    try with_reducible rfl
  try simp only [puts, gets]
  refine any_take (by kernel_rfl) (i := 8) (oi := _) (v := ?_) rfl rfl (by kernel_rfl) (by kernel_rfl) (by kernel_rfl) (fun _ _ _ h => h) (Or.inl ⟨by rfl, ?_⟩) hHeld ?_
  rotate_left
  · intro w' hSw; try dsimp only at hSw
    go_simp
    try with_reducible rfl
  try simp only [puts, gets]
  refine any_take (by kernel_rfl) (i := 9) (oi := _) (v := ?_) rfl rfl (by kernel_rfl) (by kernel_rfl) (by kernel_rfl) (fun _ _ _ h => h) (Or.inl ⟨by rfl, ?_⟩) hHeld ?_
  rotate_left
  · intro w' hSw; try dsimp only at hSw
    go_simp
    try with_reducible rfl
  try simp only [puts, gets]
  refine any_take (by kernel_rfl) (i := 10) (oi := _) (v := ?_) rfl rfl (by kernel_rfl) (by kernel_rfl) (by kernel_rfl) (fun _ _ _ h => h) (Or.inl ⟨by rfl, ?_⟩) hHeld ?_
  rotate_left
  · intro w' hSw; try dsimp only at hSw
    go_simp
    try with_reducible rfl
  try simp only [puts, gets]
  refine any_take (by kernel_rfl) (i := 11) (oi := _) (v := ?_) rfl rfl (by kernel_rfl) (by kernel_rfl) (by kernel_rfl) (fun _ _ _ h => h) (Or.inl ⟨by rfl, ?_⟩) hHeld ?_
  rotate_left
  · intro w' hSw; try dsimp only at hSw
    go_simp
    try with_reducible rfl
  try simp only [puts, gets]
  refine any_take (by kernel_rfl) (i := 12) (oi := _) (v := ?_) rfl rfl (by kernel_rfl) (by kernel_rfl) (by kernel_rfl) (fun _ _ _ h => h) (Or.inl ⟨by rfl, ?_⟩) hHeld ?_
  rotate_left
  · intro w' hSw; try dsimp only at hSw
    go_simp
    try with_reducible rfl
  try simp only [puts, gets]
  refine any_take (by kernel_rfl) (i := 13) (oi := _) (v := ?_) rfl rfl (by kernel_rfl) (by kernel_rfl) (by kernel_rfl) (fun _ _ _ h => h) (Or.inl ⟨by rfl, ?_⟩) hHeld ?_
  rotate_left
  · intro w' hSw; try dsimp only at hSw
    go_simp
    try with_reducible rfl
  try simp only [puts, gets]
  refine any_take (by kernel_rfl) (i := 14) (oi := _) (v := ?_) rfl rfl (by kernel_rfl) (by kernel_rfl) (by kernel_rfl) (fun _ _ _ h => h) (Or.inl ⟨by rfl, ?_⟩) hHeld ?_
  rotate_left
  · intro w' hSw; try dsimp only at hSw
    go_simp
    try with_reducible rfl
  try simp only [puts, gets]
  refine any_take (by kernel_rfl) (i := 15) (oi := _) (v := ?_) rfl rfl (by kernel_rfl) (by kernel_rfl) (by kernel_rfl) (fun _ _ _ h => h) (Or.inl ⟨by rfl, ?_⟩) hHeld ?_
  rotate_left
  · intro w' hSw; try dsimp only at hSw
    go_simp
    try with_reducible rfl
  try simp only [puts, gets]
  refine any_take (by kernel_rfl) (i := 16) (oi := _) (v := ?_) rfl rfl (by kernel_rfl) (by kernel_rfl) (by kernel_rfl) (fun _ _ _ h => h) (Or.inl ⟨by rfl, ?_⟩) hHeld ?_
  rotate_left
  · intro w' hSw; try dsimp only at hSw
    go_simp
    try with_reducible rfl
  try simp only [puts, gets]
  refine any_take (by kernel_rfl) (i := 17) (oi := _) (v := ?_) rfl rfl (by kernel_rfl) (by kernel_rfl) (by kernel_rfl) (fun _ _ _ h => h) (Or.inl ⟨by rfl, ?_⟩) hHeld ?_
  rotate_left
  · intro w' hSw; try dsimp only at hSw
    go_simp
    try with_reducible rfl
  try simp only [puts, gets]
  refine any_take (by kernel_rfl) (i := 18) (oi := _) (v := ?_) rfl rfl (by kernel_rfl) (by kernel_rfl) (by kernel_rfl) (fun _ _ _ h => h) (Or.inl ⟨by rfl, ?_⟩) hHeld ?_
  rotate_left
  · intro w' hSw; try dsimp only at hSw
    go_simp
    try with_reducible rfl
  try simp only [puts, gets]
  refine any_next (i := 19) (by kernel_rfl) rfl rfl (fun K hK => ?_)
  go_simp
  have bC := below_new wd (.cells #[.int .i64 0, .int .i64 1, .int .i64 2, .int .i64 4] 86)
  have hSp : IsSpans (wd.alloc (.cells #[.int .i64 0, .int .i64 1, .int .i64 2, .int .i64 4] 86)) (.slice (some ⟨wd.heap.size, 0, none⟩) 2 2) [(0, 1), (2, 4)] := IsSpans.of_rows (IsRows.lit wd [(0, 1), (2, 4)] encsS (by simp))
  obtain ⟨w35, hw⟩ : ∃ z, wd.alloc (.cells #[.int .i64 0, .int .i64 1, .int .i64 2, .int .i64 4] 86) = z := ⟨_, rfl⟩
  rw [hw] at bC hSp
  rw [hw]
  clear hw
  replace bD := below_trans bD bC
  clear bC
  refine hK.out _ _ (HS _ bD) (fun hHeld => ?_)
  clear hK K
  try simp only [puts, gets]
  refine any_next (i := 20) (by kernel_rfl) rfl rfl (fun K hK => ?_)
  go_simp
  go_at_call 21
  refine (Same_any _ _ x.s [(0, 1), (2, 4)] _ (okx.keep bD).spans hSp).mono ?_
  rintro e w36 ⟨rfl, bC⟩
  have hd : decide (x.s = [(0, 1), (2, 4)]) = true := decide_eq_true HXS.out
  rw [hd]
  clear hd hSp
  replace bD := below_trans bD bC
  clear bC
  refine hK.out _ _ (HS _ bD) (fun hHeld => ?_)
  clear hK K
  try simp only [puts, gets]
  refine any_take (by kernel_rfl) (i := 21) (oi := _) (v := ?_) rfl rfl (by kernel_rfl) (by kernel_rfl) (by kernel_rfl) (fun _ _ _ h => h) (Or.inl ⟨by rfl, ?_⟩) hHeld ?_
  rotate_left
  · intro w' hSw; try dsimp only at hSw
    go_simp
    try with_reducible rfl
  try simp only [puts, gets]
  refine any_take (by kernel_rfl) (i := 22) (oi := _) (v := ?_) rfl rfl (by kernel_rfl) (by kernel_rfl) (by kernel_rfl) (fun _ _ _ h => h) (Or.inl ⟨by rfl, ?_⟩) hHeld ?_
  rotate_left
  · intro w' hSw; try dsimp only at hSw
    go_simp
    try with_reducible rfl
  try simp only [puts, gets]
  refine any_take (by kernel_rfl) (i := 23) (oi := _) (v := ?_) rfl rfl (by kernel_rfl) (by kernel_rfl) (by kernel_rfl) (fun _ _ _ h => h) (Or.inl ⟨by rfl, ?_⟩) hHeld ?_
  rotate_left
  · intro w' hSw; try dsimp only at hSw
    go_simp
    try with_reducible rfl
  try simp only [puts, gets]
  refine any_take (by kernel_rfl) (i := 26) (oi := _) (v := ?_) rfl rfl (by kernel_rfl) (by kernel_rfl) (by kernel_rfl) (fun _ _ _ h => h) (Or.inl ⟨by rfl, ?_⟩) hHeld ?_
  rotate_left
  · intro w' hSw; try dsimp only at hSw
    go_simp
    try with_reducible rfl
  try simp only [puts, gets]
  refine any_take (by kernel_rfl) (i := 27) (oi := _) (v := ?_) rfl rfl (by kernel_rfl) (by kernel_rfl) (by kernel_rfl) (fun _ _ _ h => h) (Or.inl ⟨by rfl, ?_⟩) hHeld ?_
  rotate_left
  · intro w' hSw; try dsimp only at hSw
    go_simp
    try with_reducible rfl
  try simp only [puts, gets]
  refine any_take (by kernel_rfl) (i := 28) (oi := _) (v := ?_) rfl rfl (by kernel_rfl) (by kernel_rfl) (by kernel_rfl) (fun _ _ _ h => h) (Or.inl ⟨by rfl, ?_⟩) hHeld ?_
  rotate_left
  · intro w' hSw; try dsimp only at hSw
    go_simp
    try with_reducible rfl
  try simp only [puts, gets]
  refine any_take (by kernel_rfl) (i := 29) (oi := _) (v := ?_) rfl rfl (by kernel_rfl) (by kernel_rfl) (by kernel_rfl) (fun _ _ _ h => h) (Or.inl ⟨by rfl, ?_⟩) hHeld ?_
  rotate_left
  · intro w' hSw; try dsimp only at hSw
    go_simp
    try with_reducible rfl
  try simp only [puts, gets]
  refine any_next (i := 24) (by kernel_rfl) rfl rfl (fun K hK => ?_)
  go_simp
  go_at_call 70
  refine (pair_any [98] (short1 98) 2 _).mono ?_
  rintro e w37 ⟨u, rfl, hP, -, bC⟩
  obtain ⟨pu, cu, rfl, -⟩ := id hP
  replace bD := below_trans bD bC
  clear bC
  refine hK.out _ _ (HS _ bD) (fun hHeld => ?_)
  clear hK K
  try simp only [puts, gets]
  refine any_next (i := 25) (by kernel_rfl) rfl rfl (fun K hK => ?_)
  go_simp
  go_at_call 22
  refine (WhenR_any _ _ [ra, rb] tB _ (hT4.keep bD) (R3.keep bD) hP HM.out).mono ?_
  rintro e w38 ⟨u, rfl, ⟨hW, -⟩, bC⟩
  rw [f_when HR.out] at hW
  obtain ⟨pw, cw, rfl, -⟩ := id hW
  clear hP
  replace bD := below_trans bD bC
  clear bC
  refine hK.out _ _ (HS _ bD) (fun hHeld => ?_)
  clear hK K
  try simp only [puts, gets]
  refine any_next (i := 30) (by kernel_rfl) rfl rfl (fun K hK => ?_)
  go_simp
  go_at_call 21
  refine (Same_any _ _ [(2, 6)] rb.s _ hW ((R3.2 rb (by simp)).keep bD).spans).mono ?_
  rintro e w39 ⟨rfl, bC⟩
  have hd : decide ([(2, 6)] = rb.s) = true := decide_eq_true HBs.out.symm
  rw [hd]
  clear hd hW
  replace bD := below_trans bD bC
  clear bC
  refine hK.out _ _ (HS _ bD) (fun hHeld => ?_)
  clear hK K
  try simp only [puts, gets]
  refine any_take (by kernel_rfl) (i := 31) (oi := _) (v := ?_) rfl rfl (by kernel_rfl) (by kernel_rfl) (by kernel_rfl) (fun _ _ _ h => h) (Or.inl ⟨by rfl, ?_⟩) hHeld ?_
  rotate_left
  · intro w' hSw; try dsimp only at hSw
    go_simp
    try with_reducible rfl
  try simp only [puts, gets]
  refine any_take (by kernel_rfl) (i := 32) (oi := _) (v := ?_) rfl rfl (by kernel_rfl) (by kernel_rfl) (by kernel_rfl) (fun _ _ _ h => h) (Or.inl ⟨by rfl, ?_⟩) hHeld ?_
  rotate_left
  · intro w' hSw; try dsimp only at hSw
    go_simp
    try with_reducible rfl
  try simp only [puts, gets]
  refine any_done (by kernel_rfl) ?_ _
  refine NoPanic.normal ?_
  go_wp2
  go_ret
  exact ⟨rfl, below_trans BB bD⟩
end Go.Proofs.YtdibijhaiaiifaaDoor
