/- Parts Hb, Fw, Lp, Lo, Cn, Hd, Lq, L9, Lc, Lm, Ls, Pr: words, walks and laws that the claims of this seat share. -/
import Derived.Test.YtdibijhaiaiifaaDoorJ4
import Derived.BigQuiet
/- The walk of the head of the laws of relations. -/
namespace Go.Proofs.YtdibijhaiaiifaaDoor
open Go.RowKit
/-- The frame after a step of a drawn region, laid out: an operation of the list. -/
theorem gets : (∀ (l : List Oper) (i : Nat) (h : i < l.toArray.size), l.toArray[i] = l[i]'(by simpa using h)) ∧ (∀ (x : Oper) (l : List Oper) (h : 0 < (x :: l).length), (x :: l)[0] = x) ∧ ∀ (x : Oper) (l : List Oper) (n : Nat) (h : n + 1 < (x :: l).length), (x :: l)[n + 1] = l[n]'(by simpa using h) :=
  ⟨fun _ _ _ => by simp, fun _ _ _ => rfl, fun _ _ _ _ => rfl⟩
theorem IsRel.take {w : World} {a : Option Addr} {n c : Nat} {l : List RR} (h : IsRel w (.slice a n c) l) {m : Nat} (hm : m ≤ l.length) : IsRel w (.slice a m c) (l.take m) := ⟨h.1.take hm, fun x hx => h.2 x (List.mem_of_mem_take hx)⟩
theorem isRel_lit {w : World} {l : List RR} (hl : l.length ≤ 9223372036854775807) (h : ∀ x ∈ l, RowOk w x) : IsRel (w.alloc (.cells (l.flatMap encR).toArray 44)) (.slice (some ⟨w.heap.size, 0, none⟩) l.length l.length) l :=
  ⟨IsRows.lit w l encsR hl, fun x hx => (h x hx).keep (below_new _ _)⟩
theorem isInts_lit (w : World) (l : List Int) (hl : l.length ≤ 9223372036854775807) : IsInts (w.alloc (.cells (l.flatMap encI).toArray 3)) (.slice (some ⟨w.heap.size, 0, none⟩) l.length l.length) l := IsRows.lit w l encsI hl
set_option maxHeartbeats 16000000 in
set_option maxRecDepth 1000000 in
theorem head_any (w : World) (hT : Tab w) : Calls Tryd.prog 17 #[] w fun e w' => e = .returned (.bool true) ∧ Below w.heap.size w w' := by
  go_enter Tryd.func17, Tryd.ntmps17
  go_wp2_with fail
  refine (row_any [97] (short1 97) 1 0 4 _).mono ?_
  rintro e w1 ⟨ra, rfl, oka, ea, B1⟩
  unfold rowV
  go_wp2_with fail
  refine (row_any [98] (short1 98) 2 2 6 _).mono ?_
  rintro e w2 ⟨rb, rfl, okb, eb, B2⟩
  unfold rowV
  have B12 := below_trans B1 B2
  have oka2 := oka.keep B2
  have R3 : IsRel (w2.alloc (.cells #[ra.av, ra.wv, rb.av, rb.wv] 44)) (.slice (some ⟨w2.heap.size, 0, none⟩) 2 2) [ra, rb] := isRel_lit (l := [ra, rb]) (by simp) (fun x hx => by
    rcases List.mem_cons.1 hx with rfl | hx
    · exact oka2
    · rw [List.mem_singleton.1 hx]; exact okb)
  have C3 := Cel.new w2 44 [ra.av, ra.wv, rb.av, rb.wv]
  have B3 := below_trans B12 (below_new w2 (.cells #[ra.av, ra.wv, rb.av, rb.wv] 44))
  have HR : Hid (rows [ra, rb] = hR) := Lib.hid (show [ra.rw, rb.rw] = _ by rw [ea, eb])
  have HA := Lib.hid ea
  have HB := Lib.hid eb
  clear oka okb oka2 ea eb B1 B2 B12
  go_upto_region 2 with fail
  obtain ⟨w3, hw3⟩ : ∃ z, w2.alloc (.cells #[ra.av, ra.wv, rb.av, rb.wv] 44) = z := ⟨_, rfl⟩
  replace C3 : Cel w3 w2.heap.size 44 [ra.av, ra.wv, rb.av, rb.wv] := by rw [← hw3]; exact C3
  rw [hw3] at R3 B3
  rw [hw3]
  clear hw3
  obtain ⟨g, hg⟩ : ∃ g, w2.heap.size = g := ⟨_, rfl⟩
  rw [hg] at R3 C3
  rw [hg]
  clear hg
  have I4 := isInts_lit w3 [2, 1] (by simp)
  have C4 := Cel.new w3 3 [.int .i64 2, .int .i64 1]
  have B4 := below_new w3 (.cells #[.int .i64 2, .int .i64 1] 3)
  go_upto_region 3 with fail
  obtain ⟨w4, hw4⟩ : ∃ z, w3.alloc (.cells #[.int .i64 2, .int .i64 1] 3) = z := ⟨_, rfl⟩
  replace C4 : Cel w4 w3.heap.size 3 [.int .i64 2, .int .i64 1] := by rw [← hw4]; exact C4
  replace I4 : IsInts w4 (.slice (some ⟨w3.heap.size, 0, none⟩) 2 2) [2, 1] := by rw [← hw4]; exact I4
  rw [hw4] at B4
  rw [hw4]
  clear hw4
  obtain ⟨gt, hgt⟩ : ∃ g, w3.heap.size = g := ⟨_, rfl⟩
  rw [hgt] at I4 C4
  rw [hgt]
  clear hgt
  replace R3 := R3.keep B4
  replace C3 := C3.keep B4
  have BB := below_trans B3 B4
  have hT4 := hT.keep BB
  clear B3 B4
  have HT : Hid (rows [rb, ra] = [(tB, [(2, 6)]), (tA, [(0, 4)])]) := Lib.hid (show [rb.rw, ra.rw] = _ by rw [HA.out, HB.out])
  have I5 : IsInts w4 (.slice (some ⟨gt, 0, none⟩) 1 2) [2] := I4.take (m := 1) (by simp)
  have HM : Hid (Sml 10000 [ra, rb]) := Lib.hid ⟨by simp, fun x hx => by
    have h1 : ra.t = tA := congrArg Prod.fst HA.out
    have h2 : rb.t = tB := congrArg Prod.fst HB.out
    have h3 : ra.s = [(0, 4)] := congrArg Prod.snd HA.out
    have h4 : rb.s = [(2, 6)] := congrArg Prod.snd HB.out
    rcases List.mem_cons.1 hx with rfl | hx
    · rw [h1, h3]; decide
    · rw [List.mem_singleton.1 hx, h2, h4]; decide⟩
  go_upto_region 3 with fail
  go_cut [3] from 11 to 45 (fun v wx => v = .bool true ∧ Below w4.heap.size w4 wx)
  case first =>
    have HS : ∀ w', Below w4.heap.size w4 w' → (fun w' => w'.cell? ⟨g, 0, none⟩ = some ra.av ∧ w'.cell? ⟨g, 1, none⟩ = some ra.wv ∧ w'.cell? ⟨g, 2, none⟩ = some rb.av ∧ w'.cell? ⟨g, 3, none⟩ = some rb.wv) w' := fun w' hb => ⟨(C3.keep hb).at_ (j := 0) rfl, (C3.keep hb).at_ (j := 1) rfl, (C3.keep hb).at_ (j := 2) rfl, (C3.keep hb).at_ (j := 3) rfl⟩
    try simp only [List.append_eq, List.cons_append, List.nil_append]
    refine wp_region_noPanic ?_
    refine wp_region_late (fun w' => w'.cell? ⟨g, 0, none⟩ = some ra.av ∧ w'.cell? ⟨g, 1, none⟩ = some ra.wv ∧ w'.cell? ⟨g, 2, none⟩ = some rb.av ∧ w'.cell? ⟨g, 3, none⟩ = some rb.wv) 36 (by kernel_rfl) (HS _ (Below.refl _ _).drew) (fun hHeld => ?_)
    obtain ⟨wd, hwd⟩ : ∃ x : World, w4.drew = x := ⟨_, rfl⟩
    have bD : Below w4.heap.size w4 wd := by rw [← hwd]; exact (Below.refl _ _).drew
    rw [hwd]
    clear hwd
    have hHeld := HS _ bD
    refine any_take (by kernel_rfl) (i := 0) (oi := _) (v := ?_) rfl rfl (by kernel_rfl) (by kernel_rfl) (by kernel_rfl) (fun _ _ _ h => h) (Or.inl ⟨by rfl, ?_⟩) hHeld ?_
    rotate_left
    · intro w' hSw; try dsimp only at hSw
      go_simp
      try with_reducible rfl
    try simp only [puts, gets]
    refine any_take (by kernel_rfl) (i := 1) (oi := _) (v := ?_) rfl rfl (by kernel_rfl) (by kernel_rfl) (by kernel_rfl) (fun _ _ _ h => h) (Or.inl ⟨by rfl, ?_⟩) hHeld ?_
    rotate_left
    · intro w' hSw; try dsimp only at hSw
      go_simp
      try with_reducible rfl
    try simp only [puts, gets]
    refine any_next (i := 2) (by kernel_rfl) rfl rfl (fun K hK => ?_)
    go_simp
    go_at_call 19
    refine (ValidR_any _ _ [2, 1] [ra, rb] _ (hT4.keep bD) (I4.keep bD) (R3.keep bD)).mono ?_
    rintro e w1 ⟨v, rfl, hv, bC⟩
    obtain rfl : v = true := hv.2 (f_good HR.out)
    replace bD := below_trans bD bC
    clear bC
    refine hK.out _ _ (HS _ bD) (fun hHeld => ?_)
    clear hK K
    try simp only [puts, gets]
    refine any_take (by kernel_rfl) (i := 3) (oi := _) (v := ?_) rfl rfl (by kernel_rfl) (by kernel_rfl) (by kernel_rfl) (fun _ _ _ h => h) (Or.inl ⟨by rfl, ?_⟩) hHeld ?_
    rotate_left
    · intro w' hSw; try dsimp only at hSw
      go_simp
      try with_reducible rfl
    try simp only [puts, gets]
    refine any_take (by kernel_rfl) (i := 4) (oi := _) (v := ?_) rfl rfl (by kernel_rfl) (by kernel_rfl) (by kernel_rfl) (fun _ _ _ h => h) (Or.inl ⟨by rfl, ?_⟩) hHeld ?_
    rotate_left
    · intro w' hSw; try dsimp only at hSw
      go_simp
      try with_reducible rfl
    try simp only [puts, gets]
    refine any_take (by kernel_rfl) (i := 5) (oi := _) (v := ?_) rfl rfl (by kernel_rfl) (by kernel_rfl) (by kernel_rfl) (fun _ _ _ h => h) (Or.inl ⟨by rfl, ?_⟩) hHeld ?_
    rotate_left
    · intro w' hSw; try dsimp only at hSw
      go_simp
      try with_reducible rfl
    try simp only [puts, gets]
    refine any_take (by kernel_rfl) (i := 6) (oi := _) (v := ?_) rfl rfl (by kernel_rfl) (by kernel_rfl) (by kernel_rfl) (fun _ _ _ h => h) (Or.inl ⟨by rfl, ?_⟩) hHeld ?_
    rotate_left
    · intro w' hSw; try dsimp only at hSw
      go_simp
      try with_reducible rfl
    try simp only [puts, gets]
    refine any_take (by kernel_rfl) (i := 7) (oi := _) (v := ?_) rfl rfl (by kernel_rfl) (by kernel_rfl) (by kernel_rfl) (fun _ _ _ h => h) (Or.inl ⟨by rfl, ?_⟩) hHeld ?_
    rotate_left
    · intro w' hSw; try dsimp only at hSw
      go_simp
      try with_reducible rfl
    try simp only [puts, gets]
    refine any_take (by kernel_rfl) (i := 8) (oi := _) (v := ?_) rfl rfl (by kernel_rfl) (by kernel_rfl) (by kernel_rfl) (fun _ _ _ h => h) (Or.inl ⟨by rfl, ?_⟩) hHeld ?_
    rotate_left
    · intro w' hSw; try dsimp only at hSw
      go_simp
      try with_reducible rfl
    try simp only [puts, gets]
    refine any_take (by kernel_rfl) (i := 9) (oi := _) (v := ?_) rfl rfl (by kernel_rfl) (by kernel_rfl) (by kernel_rfl) (fun _ _ _ h => h) (Or.inl ⟨by rfl, ?_⟩) hHeld ?_
    rotate_left
    · intro w' hSw; try dsimp only at hSw
      go_simp
      try with_reducible rfl
    try simp only [puts, gets]
    refine any_take (by kernel_rfl) (i := 10) (oi := _) (v := ?_) rfl rfl (by kernel_rfl) (by kernel_rfl) (by kernel_rfl) (fun _ _ _ h => h) (Or.inl ⟨by rfl, ?_⟩) hHeld ?_
    rotate_left
    · intro w' hSw; try dsimp only at hSw
      go_simp
      try with_reducible rfl
    try simp only [puts, gets]
    refine any_next (i := 11) (by kernel_rfl) rfl rfl (fun K hK => ?_)
    go_simp
    have bC := below_new w1 (.cells #[rb.av, rb.wv, ra.av, ra.wv] 44)
    have RL : IsRel (w1.alloc (.cells #[rb.av, rb.wv, ra.av, ra.wv] 44)) (.slice (some ⟨w1.heap.size, 0, none⟩) 2 2) [rb, ra] := isRel_lit (l := [rb, ra]) (by simp) (fun x hx => (R3.2 x (by simp at hx ⊢; rcases hx with rfl | rfl <;> simp)).keep bD)
    obtain ⟨w2, hw⟩ : ∃ z, w1.alloc (.cells #[rb.av, rb.wv, ra.av, ra.wv] 44) = z := ⟨_, rfl⟩
    rw [hw] at bC RL
    rw [hw]
    clear hw
    replace bD := below_trans bD bC
    clear bC
    refine hK.out _ _ (HS _ bD) (fun hHeld => ?_)
    clear hK K
    try simp only [puts, gets]
    refine any_next (i := 12) (by kernel_rfl) rfl rfl (fun K hK => ?_)
    go_simp
    go_at_call 19
    refine (ValidR_any _ _ [2, 1] [rb, ra] _ (hT4.keep bD) (I4.keep bD) RL).mono ?_
    rintro e w3 ⟨v, rfl, hv, bC⟩
    obtain rfl : v = false := by
      cases v with
      | false => rfl
      | true => exact absurd (hv.1 rfl) (f_turned HT.out)
    clear RL
    replace bD := below_trans bD bC
    clear bC
    refine hK.out _ _ (HS _ bD) (fun hHeld => ?_)
    clear hK K
    try simp only [puts, gets]
    refine any_take (by kernel_rfl) (i := 13) (oi := _) (v := ?_) rfl rfl (by kernel_rfl) (by kernel_rfl) (by kernel_rfl) (fun _ _ _ h => h) (Or.inl ⟨by rfl, ?_⟩) hHeld ?_
    rotate_left
    · intro w' hSw; try dsimp only at hSw
      go_simp
      try with_reducible rfl
    try simp only [puts, gets]
    refine any_take (by kernel_rfl) (i := 14) (oi := _) (v := ?_) rfl rfl (by kernel_rfl) (by kernel_rfl) (by kernel_rfl) (fun _ _ _ h => h) (Or.inl ⟨by rfl, ?_⟩) hHeld ?_
    rotate_left
    · intro w' hSw; try dsimp only at hSw
      go_simp
      try with_reducible rfl
    try simp only [puts, gets]
    refine any_take (by kernel_rfl) (i := 15) (oi := _) (v := ?_) rfl rfl (by kernel_rfl) (by kernel_rfl) (by kernel_rfl) (fun _ _ _ h => h) (Or.inl ⟨by rfl, ?_⟩) hHeld ?_
    rotate_left
    · intro w' hSw; try dsimp only at hSw
      go_simp
      try with_reducible rfl
    try simp only [puts, gets]
    refine any_take (by kernel_rfl) (i := 16) (oi := _) (v := ?_) rfl rfl (by kernel_rfl) (by kernel_rfl) (by kernel_rfl) (fun _ _ _ h => h) (Or.inl ⟨by rfl, ?_⟩) hHeld ?_
    rotate_left
    · intro w' hSw; try dsimp only at hSw
      go_simp
      try with_reducible rfl
    try simp only [puts, gets]
    refine any_take (by kernel_rfl) (i := 17) (oi := _) (v := ?_) rfl rfl (by kernel_rfl) (by kernel_rfl) (by kernel_rfl) (fun _ _ _ h => h) (Or.inl ⟨by rfl, ?_⟩) hHeld ?_
    rotate_left
    · intro w' hSw; try dsimp only at hSw
      go_simp
      try with_reducible rfl
    try simp only [puts, gets]
    refine any_take (by kernel_rfl) (i := 18) (oi := _) (v := ?_) rfl rfl (by kernel_rfl) (by kernel_rfl) (by kernel_rfl) (fun _ _ _ h => h) (Or.inl ⟨by rfl, ?_⟩) hHeld ?_
    rotate_left
    · intro w' hSw; try dsimp only at hSw
      go_simp
      try with_reducible rfl
    try simp only [puts, gets]
    refine any_next (i := 19) (by kernel_rfl) rfl rfl (fun K hK => ?_)
    go_simp
    go_at_call 19
    refine (ValidR_any _ _ [2] [ra, rb] _ (hT4.keep bD) (I5.keep bD) (R3.keep bD)).mono ?_
    rintro e w4 ⟨v, rfl, hv, bC⟩
    obtain rfl : v = false := by
      cases v with
      | false => rfl
      | true => exact absurd (hv.1 rfl) (f_short HR.out)
    replace bD := below_trans bD bC
    clear bC
    refine hK.out _ _ (HS _ bD) (fun hHeld => ?_)
    clear hK K
    try simp only [puts, gets]
    refine any_take (by kernel_rfl) (i := 20) (oi := _) (v := ?_) rfl rfl (by kernel_rfl) (by kernel_rfl) (by kernel_rfl) (fun _ _ _ h => h) (Or.inl ⟨by rfl, ?_⟩) hHeld ?_
    rotate_left
    · intro w' hSw; try dsimp only at hSw
      go_simp
      try with_reducible rfl
    try simp only [puts, gets]
    refine any_take (by kernel_rfl) (i := 21) (oi := _) (v := ?_) rfl rfl (by kernel_rfl) (by kernel_rfl) (by kernel_rfl) (fun _ _ _ h => h) (Or.inl ⟨by rfl, ?_⟩) hHeld ?_
    rotate_left
    · intro w' hSw; try dsimp only at hSw
      go_simp
      try with_reducible rfl
    try simp only [puts, gets]
    refine any_take (by kernel_rfl) (i := 22) (oi := _) (v := ?_) rfl rfl (by kernel_rfl) (by kernel_rfl) (by kernel_rfl) (fun _ _ _ h => h) (Or.inl ⟨by rfl, ?_⟩) hHeld ?_
    rotate_left
    · intro w' hSw; try dsimp only at hSw
      go_simp
      try with_reducible rfl
    try simp only [puts, gets]
    refine any_take (by kernel_rfl) (i := 23) (oi := _) (v := ?_) rfl rfl (by kernel_rfl) (by kernel_rfl) (by kernel_rfl) (fun _ _ _ h => h) (Or.inl ⟨by rfl, ?_⟩) hHeld ?_
    rotate_left
    · intro w' hSw; try dsimp only at hSw
      go_simp
      try with_reducible rfl
    try simp only [puts, gets]
    refine any_take (by kernel_rfl) (i := 25) (oi := _) (v := ?_) rfl rfl (by kernel_rfl) (by kernel_rfl) (by kernel_rfl) (fun _ _ _ h => h) (Or.inl ⟨by rfl, ?_⟩) hHeld ?_
    rotate_left
    · intro w' hSw; try dsimp only at hSw
      go_simp
      try with_reducible rfl
    try simp only [puts, gets]
    refine any_take (by kernel_rfl) (i := 29) (oi := _) (v := ?_) rfl rfl (by kernel_rfl) (by kernel_rfl) (by kernel_rfl) (fun _ _ _ h => h) (Or.inl ⟨by rfl, ?_⟩) hHeld ?_
    rotate_left
    · intro w' hSw; try dsimp only at hSw
      go_simp
      try with_reducible rfl
    try simp only [puts, gets]
    refine any_take (by kernel_rfl) (i := 30) (oi := _) (v := ?_) rfl rfl (by kernel_rfl) (by kernel_rfl) (by kernel_rfl) (fun _ _ _ h => h) (Or.inl ⟨by rfl, ?_⟩) hHeld ?_
    rotate_left
    · intro w' hSw; try dsimp only at hSw
      go_simp
      try with_reducible rfl
    try simp only [puts, gets]
    refine any_take (by kernel_rfl) (i := 31) (oi := _) (v := ?_) rfl rfl (by kernel_rfl) (by kernel_rfl) (by kernel_rfl) (fun _ _ _ h => h) (Or.inl ⟨by rfl, ?_⟩) hHeld ?_
    rotate_left
    · intro w' hSw; try dsimp only at hSw
      go_simp
      try with_reducible rfl
    try simp only [puts, gets]
    refine any_two (i := 24) (j := 26) (by kernel_rfl) rfl rfl rfl rfl (fun K hK => ?_) (fun K hK => ?_)
    · go_simp
      go_at_call 70
      refine (pair_any [97] (short1 97) 1 _).mono ?_
      rintro e w5 ⟨u, rfl, hP, -, bC⟩
      obtain ⟨pu, cu, rfl, -⟩ := id hP
      replace bD := below_trans bD bC
      clear bC
      refine hK.out _ _ (HS _ bD) (fun hHeld => ?_)
      clear hK K
      try simp only [puts, gets]
      refine any_next (i := 26) (by kernel_rfl) rfl rfl (fun K hK => ?_)
      go_simp
      have bC := below_new w5 (.cells #[.int .i64 4, .int .i64 5] 86)
      have hSp : IsSpans (w5.alloc (.cells #[.int .i64 4, .int .i64 5] 86)) (.slice (some ⟨w5.heap.size, 0, none⟩) 1 1) [(4, 5)] := IsSpans.of_rows (IsRows.lit w5 [(4, 5)] encsS (by simp))
      obtain ⟨w6, hw⟩ : ∃ z, w5.alloc (.cells #[.int .i64 4, .int .i64 5] 86) = z := ⟨_, rfl⟩
      rw [hw] at bC hSp
      rw [hw]
      clear hw
      replace hP := hP.keep bC
      replace bD := below_trans bD bC
      clear bC
      refine hK.out _ _ (HS _ bD) (fun hHeld => ?_)
      clear hK K
      try simp only [puts, gets]
      refine any_next (i := 27) (by kernel_rfl) rfl rfl (fun K hK => ?_)
      go_simp
      go_at_call 25
      refine (InsertR_any _ _ _ [ra, rb] tA [(4, 5)] _ (hT4.keep bD) (R3.keep bD) hP hSp HM.out (by decide) (by decide)).mono ?_
      rintro e w7 ⟨u, rfl, zs, RZ, OZ, bC⟩
      replace RZ := RZ.rel
      have HZ := Lib.hid (f_insert HR.out OZ)
      obtain ⟨pz, cz, rfl, -⟩ := RZ.shape
      clear hP hSp OZ
      replace bD := below_trans bD bC
      clear bC
      refine hK.out _ _ (HS _ bD) (fun hHeld => ?_)
      clear hK K
      try simp only [puts, gets]
      refine any_next (i := 28) (by kernel_rfl) rfl rfl (fun K hK => ?_)
      go_simp
      go_at_call 69
      refine (row_any [97] (short1 97) 1 0 5 _).mono ?_
      rintro e w8 ⟨rc, rfl, okc, ec, bC⟩
      unfold rowV
      replace RZ := RZ.keep bC
      replace bD := below_trans bD bC
      clear bC
      refine hK.out _ _ (HS _ bD) (fun hHeld => ?_)
      clear hK K
      try simp only [puts, gets]
      refine any_next (i := 32) (by kernel_rfl) rfl rfl (fun K hK => ?_)
      go_simp
      have bC := below_new w8 (.cells #[rc.av, rc.wv, rb.av, rb.wv] 44)
      have RL : IsRel (w8.alloc (.cells #[rc.av, rc.wv, rb.av, rb.wv] 44)) (.slice (some ⟨w8.heap.size, 0, none⟩) 2 2) [rc, rb] := isRel_lit (l := [rc, rb]) (by simp) (fun x hx => by
      rcases List.mem_cons.1 hx with rfl | hx
      · exact okc
      · rw [List.mem_singleton.1 hx]; exact (R3.2 rb (by simp)).keep bD)
      obtain ⟨w9, hw⟩ : ∃ z, w8.alloc (.cells #[rc.av, rc.wv, rb.av, rb.wv] 44) = z := ⟨_, rfl⟩
      rw [hw] at bC RL
      rw [hw]
      clear hw
      replace RZ := RZ.keep bC
      replace bD := below_trans bD bC
      clear bC
      refine hK.out _ _ (HS _ bD) (fun hHeld => ?_)
      clear hK K
      try simp only [puts, gets]
      refine any_next (i := 33) (by kernel_rfl) rfl rfl (fun K hK => ?_)
      go_simp
      go_at_call 24
      refine (rSameR_any _ _ zs [rc, rb] _ RZ RL).mono ?_
      rintro e w10 ⟨rfl, bC⟩
      have hd : decide (rows zs = rows [rc, rb]) = true := decide_eq_true (by rw [HZ.out]; show _ = [rc.rw, rb.rw]; rw [ec, HB.out])
      rw [hd]
      clear hd RZ RL HZ ec
      replace bD := below_trans bD bC
      clear bC
      refine hK.out _ _ (HS _ bD) (fun hHeld => ?_)
      clear hK K
      try simp only [puts, gets]
      refine any_take (by kernel_rfl) (i := 34) (oi := _) (v := ?_) rfl rfl (by kernel_rfl) (by kernel_rfl) (by kernel_rfl) (fun _ _ _ h => h) (Or.inl ⟨by rfl, ?_⟩) hHeld ?_
      rotate_left
      · intro w' hSw; try dsimp only at hSw
        go_simp
        try with_reducible rfl
      try simp only [puts, gets]
      refine any_take (by kernel_rfl) (i := 35) (oi := _) (v := ?_) rfl rfl (by kernel_rfl) (by kernel_rfl) (by kernel_rfl) (fun _ _ _ h => h) (Or.inl ⟨by rfl, ?_⟩) hHeld ?_
      rotate_left
      · intro w' hSw; try dsimp only at hSw
        go_simp
        try with_reducible rfl
      try simp only [puts, gets]
      refine any_done (by kernel_rfl) ?_ _
      refine NoPanic.normal ?_
      go_wp2
      go_meet
      case rel => exact ⟨rfl, bD⟩
    · go_simp
      have bC := below_new w4 (.cells #[.int .i64 4, .int .i64 5] 86)
      have hSp : IsSpans (w4.alloc (.cells #[.int .i64 4, .int .i64 5] 86)) (.slice (some ⟨w4.heap.size, 0, none⟩) 1 1) [(4, 5)] := IsSpans.of_rows (IsRows.lit w4 [(4, 5)] encsS (by simp))
      obtain ⟨w11, hw⟩ : ∃ z, w4.alloc (.cells #[.int .i64 4, .int .i64 5] 86) = z := ⟨_, rfl⟩
      rw [hw] at bC hSp
      rw [hw]
      clear hw
      replace bD := below_trans bD bC
      clear bC
      refine hK.out _ _ (HS _ bD) (fun hHeld => ?_)
      clear hK K
      try simp only [puts, gets]
      refine any_next (i := 24) (by kernel_rfl) rfl rfl (fun K hK => ?_)
      go_simp
      go_at_call 70
      refine (pair_any [97] (short1 97) 1 _).mono ?_
      rintro e w12 ⟨u, rfl, hP, -, bC⟩
      obtain ⟨pu, cu, rfl, -⟩ := id hP
      replace hSp := hSp.keep bC
      replace bD := below_trans bD bC
      clear bC
      refine hK.out _ _ (HS _ bD) (fun hHeld => ?_)
      clear hK K
      try simp only [puts, gets]
      refine any_next (i := 27) (by kernel_rfl) rfl rfl (fun K hK => ?_)
      go_simp
      go_at_call 25
      refine (InsertR_any _ _ _ [ra, rb] tA [(4, 5)] _ (hT4.keep bD) (R3.keep bD) hP hSp HM.out (by decide) (by decide)).mono ?_
      rintro e w13 ⟨u, rfl, zs, RZ, OZ, bC⟩
      replace RZ := RZ.rel
      have HZ := Lib.hid (f_insert HR.out OZ)
      obtain ⟨pz, cz, rfl, -⟩ := RZ.shape
      clear hP hSp OZ
      replace bD := below_trans bD bC
      clear bC
      refine hK.out _ _ (HS _ bD) (fun hHeld => ?_)
      clear hK K
      try simp only [puts, gets]
      refine any_next (i := 28) (by kernel_rfl) rfl rfl (fun K hK => ?_)
      go_simp
      go_at_call 69
      refine (row_any [97] (short1 97) 1 0 5 _).mono ?_
      rintro e w14 ⟨rc, rfl, okc, ec, bC⟩
      unfold rowV
      replace RZ := RZ.keep bC
      replace bD := below_trans bD bC
      clear bC
      refine hK.out _ _ (HS _ bD) (fun hHeld => ?_)
      clear hK K
      try simp only [puts, gets]
      refine any_next (i := 32) (by kernel_rfl) rfl rfl (fun K hK => ?_)
      go_simp
      have bC := below_new w14 (.cells #[rc.av, rc.wv, rb.av, rb.wv] 44)
      have RL : IsRel (w14.alloc (.cells #[rc.av, rc.wv, rb.av, rb.wv] 44)) (.slice (some ⟨w14.heap.size, 0, none⟩) 2 2) [rc, rb] := isRel_lit (l := [rc, rb]) (by simp) (fun x hx => by
      rcases List.mem_cons.1 hx with rfl | hx
      · exact okc
      · rw [List.mem_singleton.1 hx]; exact (R3.2 rb (by simp)).keep bD)
      obtain ⟨w15, hw⟩ : ∃ z, w14.alloc (.cells #[rc.av, rc.wv, rb.av, rb.wv] 44) = z := ⟨_, rfl⟩
      rw [hw] at bC RL
      rw [hw]
      clear hw
      replace RZ := RZ.keep bC
      replace bD := below_trans bD bC
      clear bC
      refine hK.out _ _ (HS _ bD) (fun hHeld => ?_)
      clear hK K
      try simp only [puts, gets]
      refine any_next (i := 33) (by kernel_rfl) rfl rfl (fun K hK => ?_)
      go_simp
      go_at_call 24
      refine (rSameR_any _ _ zs [rc, rb] _ RZ RL).mono ?_
      rintro e w16 ⟨rfl, bC⟩
      have hd : decide (rows zs = rows [rc, rb]) = true := decide_eq_true (by rw [HZ.out]; show _ = [rc.rw, rb.rw]; rw [ec, HB.out])
      rw [hd]
      clear hd RZ RL HZ ec
      replace bD := below_trans bD bC
      clear bC
      refine hK.out _ _ (HS _ bD) (fun hHeld => ?_)
      clear hK K
      try simp only [puts, gets]
      refine any_take (by kernel_rfl) (i := 34) (oi := _) (v := ?_) rfl rfl (by kernel_rfl) (by kernel_rfl) (by kernel_rfl) (fun _ _ _ h => h) (Or.inl ⟨by rfl, ?_⟩) hHeld ?_
      rotate_left
      · intro w' hSw; try dsimp only at hSw
        go_simp
        try with_reducible rfl
      try simp only [puts, gets]
      refine any_take (by kernel_rfl) (i := 35) (oi := _) (v := ?_) rfl rfl (by kernel_rfl) (by kernel_rfl) (by kernel_rfl) (fun _ _ _ h => h) (Or.inl ⟨by rfl, ?_⟩) hHeld ?_
      rotate_left
      · intro w' hSw; try dsimp only at hSw
        go_simp
        try with_reducible rfl
      try simp only [puts, gets]
      refine any_done (by kernel_rfl) ?_ _
      refine NoPanic.normal ?_
      go_wp2
      go_meet
      case rel => exact ⟨rfl, bD⟩
  case rest =>
  obtain ⟨rfl, bR⟩ := hcut
  obtain ⟨w20, hnew⟩ : ∃ x, wc = x := ⟨_, rfl⟩
  rw [hnew] at bR
  rw [hnew]
  clear hnew
  replace R3 := R3.keep bR
  replace C3 := C3.keep bR
  replace I4 := I4.keep bR
  replace C4 := C4.keep bR
  replace I5 := I5.keep bR
  replace hT4 := hT4.keep bR
  replace BB := below_trans BB bR
  clear bR
  have HBs : Hid (rb.s = [(2, 6)]) := Lib.hid (congrArg Prod.snd HB.out)
  have HAs : Hid (ra.s = [(0, 4)]) := Lib.hid (congrArg Prod.snd HA.out)
  go_upto_region 4 with fail
  go_cut [4] from 46 to 74 (fun v wx => v = .bool true ∧ Below w20.heap.size w20 wx)
  case first =>
    have HS : ∀ w', Below w20.heap.size w20 w' → (fun w' => w'.cell? ⟨g, 0, none⟩ = some ra.av ∧ w'.cell? ⟨g, 1, none⟩ = some ra.wv ∧ w'.cell? ⟨g, 2, none⟩ = some rb.av ∧ w'.cell? ⟨g, 3, none⟩ = some rb.wv) w' := fun w' hb => ⟨(C3.keep hb).at_ (j := 0) rfl, (C3.keep hb).at_ (j := 1) rfl, (C3.keep hb).at_ (j := 2) rfl, (C3.keep hb).at_ (j := 3) rfl⟩
    try simp only [List.append_eq, List.cons_append, List.nil_append]
    refine wp_region_noPanic ?_
    refine wp_region_late (fun w' => w'.cell? ⟨g, 0, none⟩ = some ra.av ∧ w'.cell? ⟨g, 1, none⟩ = some ra.wv ∧ w'.cell? ⟨g, 2, none⟩ = some rb.av ∧ w'.cell? ⟨g, 3, none⟩ = some rb.wv) 30 (by kernel_rfl) (HS _ (Below.refl _ _).drew) (fun hHeld => ?_)
    obtain ⟨wd, hwd⟩ : ∃ x : World, w20.drew = x := ⟨_, rfl⟩
    have bD : Below w20.heap.size w20 wd := by rw [← hwd]; exact (Below.refl _ _).drew
    rw [hwd]
    clear hwd
    have hHeld := HS _ bD
    refine any_take (by kernel_rfl) (i := 0) (oi := _) (v := ?_) rfl rfl (by kernel_rfl) (by kernel_rfl) (by kernel_rfl) (fun _ _ _ h => h) (Or.inl ⟨by rfl, ?_⟩) hHeld ?_
    rotate_left
    · intro w' hSw; try dsimp only at hSw
      go_simp
      try with_reducible rfl
    try simp only [puts, gets]
    refine any_take (by kernel_rfl) (i := 2) (oi := _) (v := ?_) rfl rfl (by kernel_rfl) (by kernel_rfl) (by kernel_rfl) (fun _ _ _ h => h) (Or.inl ⟨by rfl, ?_⟩) hHeld ?_
    rotate_left
    · intro w' hSw; try dsimp only at hSw
      go_simp
      try with_reducible rfl
    try simp only [puts, gets]
    refine any_take (by kernel_rfl) (i := 3) (oi := _) (v := ?_) rfl rfl (by kernel_rfl) (by kernel_rfl) (by kernel_rfl) (fun _ _ _ h => h) (Or.inl ⟨by rfl, ?_⟩) hHeld ?_
    rotate_left
    · intro w' hSw; try dsimp only at hSw
      go_simp
      try with_reducible rfl
    try simp only [puts, gets]
    refine any_take (by kernel_rfl) (i := 4) (oi := _) (v := ?_) rfl rfl (by kernel_rfl) (by kernel_rfl) (by kernel_rfl) (fun _ _ _ h => h) (Or.inl ⟨by rfl, ?_⟩) hHeld ?_
    rotate_left
    · intro w' hSw; try dsimp only at hSw
      go_simp
      try with_reducible rfl
    try simp only [puts, gets]
    refine any_take (by kernel_rfl) (i := 5) (oi := _) (v := ?_) rfl rfl (by kernel_rfl) (by kernel_rfl) (by kernel_rfl) (fun _ _ _ h => h) (Or.inl ⟨by rfl, ?_⟩) hHeld ?_
    rotate_left
    · intro w' hSw; try dsimp only at hSw
      go_simp
      try with_reducible rfl
    try simp only [puts, gets]
    refine any_take (by kernel_rfl) (i := 7) (oi := _) (v := ?_) rfl rfl (by kernel_rfl) (by kernel_rfl) (by kernel_rfl) (fun _ _ _ h => h) (Or.inl ⟨by rfl, ?_⟩) hHeld ?_
    rotate_left
    · intro w' hSw; try dsimp only at hSw
      go_simp
      try with_reducible rfl
    try simp only [puts, gets]
    refine any_take (by kernel_rfl) (i := 8) (oi := _) (v := ?_) rfl rfl (by kernel_rfl) (by kernel_rfl) (by kernel_rfl) (fun _ _ _ h => h) (Or.inl ⟨by rfl, ?_⟩) hHeld ?_
    rotate_left
    · intro w' hSw; try dsimp only at hSw
      go_simp
      try with_reducible rfl
    try simp only [puts, gets]
    refine any_next (i := 1) (by kernel_rfl) rfl rfl (fun K hK => ?_)
    go_simp
    go_at_call 70
    refine (pair_any [98] (short1 98) 2 _).mono ?_
    rintro e w17 ⟨u, rfl, hP, -, bC⟩
    obtain ⟨pu, cu, rfl, -⟩ := id hP
    replace bD := below_trans bD bC
    clear bC
    refine hK.out _ _ (HS _ bD) (fun hHeld => ?_)
    clear hK K
    try simp only [puts, gets]
    refine any_next (i := 6) (by kernel_rfl) rfl rfl (fun K hK => ?_)
    go_simp
    go_at_call 27
    refine (RemoveR_any _ _ _ [ra, rb] tB [(2, 6)] _ (hT4.keep bD) (R3.keep bD) hP (by have := ((R3.2 rb (by simp)).keep bD).spans; rw [HBs.out] at this; exact this) HM.out (by decide) (by decide)).mono ?_
    rintro e w18 ⟨u, rfl, zs, RZ, OZ, bC⟩
    replace RZ := RZ.rel
    have HZ := Lib.hid (f_remove HR.out OZ)
    obtain ⟨pz, cz, rfl, -⟩ := RZ.shape
    clear hP OZ
    replace bD := below_trans bD bC
    clear bC
    refine hK.out _ _ (HS _ bD) (fun hHeld => ?_)
    clear hK K
    try simp only [puts, gets]
    refine any_next (i := 9) (by kernel_rfl) rfl rfl (fun K hK => ?_)
    go_simp
    go_at_call 24
    refine (rSameR_any _ _ zs [ra] _ RZ ((R3.keep bD).take (m := 1) (by simp))).mono ?_
    rintro e w19 ⟨rfl, bC⟩
    have hd : decide (rows zs = rows [ra]) = true := decide_eq_true (by rw [HZ.out]; show _ = [ra.rw]; rw [HA.out])
    rw [hd]
    clear hd RZ HZ
    replace bD := below_trans bD bC
    clear bC
    refine hK.out _ _ (HS _ bD) (fun hHeld => ?_)
    clear hK K
    try simp only [puts, gets]
    refine any_take (by kernel_rfl) (i := 10) (oi := _) (v := ?_) rfl rfl (by kernel_rfl) (by kernel_rfl) (by kernel_rfl) (fun _ _ _ h => h) (Or.inl ⟨by rfl, ?_⟩) hHeld ?_
    rotate_left
    · intro w' hSw; try dsimp only at hSw
      go_simp
      try with_reducible rfl
    try simp only [puts, gets]
    refine any_take (by kernel_rfl) (i := 11) (oi := _) (v := ?_) rfl rfl (by kernel_rfl) (by kernel_rfl) (by kernel_rfl) (fun _ _ _ h => h) (Or.inl ⟨by rfl, ?_⟩) hHeld ?_
    rotate_left
    · intro w' hSw; try dsimp only at hSw
      go_simp
      try with_reducible rfl
    try simp only [puts, gets]
    refine any_next (i := 12) (by kernel_rfl) rfl rfl (fun K hK => ?_)
    go_simp
    go_at_call 36
    refine (AtR_any _ [ra, rb] 3 _ (hT4.keep bD) (R3.keep bD) HM.out).mono ?_
    rintro e w20 ⟨u, rfl, ts, hts, hat, -, bC⟩
    have HTS := Lib.hid (f_at HR.out hat.out)
    replace HTS : Hid (tups ts = [tA, tB]) := Lib.hid (by have := HTS.out; exact this.trans (by decide +kernel))
    have hl : ts.length = (tups ts).length := (tups_length ts).symm
    rw [HTS.out] at hl
    obtain ⟨pt, ct, rfl, -⟩ := hts.shape
    replace hl : ts.length = 2 := hl
    rw [hl]
    clear hl hat
    replace bD := below_trans bD bC
    clear bC
    clear hts HTS
    refine hK.out _ _ (HS _ bD) (fun hHeld => ?_)
    clear hK K
    try simp only [puts, gets]
    refine any_take (by kernel_rfl) (i := 13) (oi := _) (v := ?_) rfl rfl (by kernel_rfl) (by kernel_rfl) (by kernel_rfl) (fun _ _ _ h => h) (Or.inl ⟨by rfl, ?_⟩) hHeld ?_
    rotate_left
    · intro w' hSw; try dsimp only at hSw
      go_simp
      try with_reducible rfl
    try simp only [puts, gets]
    refine any_take (by kernel_rfl) (i := 14) (oi := _) (v := ?_) rfl rfl (by kernel_rfl) (by kernel_rfl) (by kernel_rfl) (fun _ _ _ h => h) (Or.inl ⟨by rfl, ?_⟩) hHeld ?_
    rotate_left
    · intro w' hSw; try dsimp only at hSw
      go_simp
      try with_reducible rfl
    try simp only [puts, gets]
    refine any_take (by kernel_rfl) (i := 15) (oi := _) (v := ?_) rfl rfl (by kernel_rfl) (by kernel_rfl) (by kernel_rfl) (fun _ _ _ h => h) (Or.inl ⟨by rfl, ?_⟩) hHeld ?_
    rotate_left
    · intro w' hSw; try dsimp only at hSw
      go_simp
      try with_reducible rfl
    try simp only [puts, gets]
    refine any_take (by kernel_rfl) (i := 16) (oi := _) (v := ?_) rfl rfl (by kernel_rfl) (by kernel_rfl) (by kernel_rfl) (fun _ _ _ h => h) (Or.inl ⟨by rfl, ?_⟩) hHeld ?_
    rotate_left
    · intro w' hSw; try dsimp only at hSw
      go_simp
      try with_reducible rfl
    try simp only [puts, gets]
    refine any_take (by kernel_rfl) (i := 17) (oi := _) (v := ?_) rfl rfl (by kernel_rfl) (by kernel_rfl) (by kernel_rfl) (fun _ _ _ h => h) (Or.inl ⟨by rfl, ?_⟩) hHeld ?_
    rotate_left
    · intro w' hSw; try dsimp only at hSw
      go_simp
      try with_reducible rfl
    try simp only [puts, gets]
    refine any_next (i := 18) (by kernel_rfl) rfl rfl (fun K hK => ?_)
    go_simp
    go_at_call 36
    refine (AtR_any _ [ra, rb] 5 _ (hT4.keep bD) (R3.keep bD) HM.out).mono ?_
    rintro e w21 ⟨u, rfl, ts, hts, hat, -, bC⟩
    have HTS := Lib.hid (f_at HR.out hat.out)
    replace HTS : Hid (tups ts = [tB]) := Lib.hid (by have := HTS.out; exact this.trans (by decide +kernel))
    have hl : ts.length = (tups ts).length := (tups_length ts).symm
    rw [HTS.out] at hl
    obtain ⟨pt, ct, rfl, -⟩ := hts.shape
    replace hl : ts.length = 1 := hl
    skip
    clear hl hat
    replace bD := below_trans bD bC
    clear bC
    refine hK.out _ _ (HS _ bD) (fun hHeld => ?_)
    clear hK K
    try simp only [puts, gets]
    refine any_next (i := 19) (by kernel_rfl) rfl rfl (fun K hK => ?_)
    go_simp
    go_at_call 70
    refine (pair_any [98] (short1 98) 2 _).mono ?_
    rintro e w22 ⟨u, rfl, hP, -, bC⟩
    obtain ⟨pu, cu, rfl, -⟩ := id hP
    replace hts := hts.keep bC
    replace bD := below_trans bD bC
    clear bC
    refine hK.out _ _ (HS _ bD) (fun hHeld => ?_)
    clear hK K
    try simp only [puts, gets]
    refine any_next (i := 20) (by kernel_rfl) rfl rfl (fun K hK => ?_)
    go_simp
    have bC := below_new w22 (.cells #[.slice pu (List.length tB) cu] 25)
    have hTL : IsTups (w22.alloc (.cells #[.slice pu (List.length tB) cu] 25)) (.slice (some ⟨w22.heap.size, 0, none⟩) 1 1) [⟨pu, cu, tB⟩] := ⟨IsRows.lit w22 [(⟨pu, cu, tB⟩ : TT)] encsT (by simp), fun x hx => by rw [List.mem_singleton.1 hx]; exact hP.keep bC⟩
    obtain ⟨w23, hw⟩ : ∃ z, w22.alloc (.cells #[.slice pu (List.length tB) cu] 25) = z := ⟨_, rfl⟩
    rw [hw] at bC hTL
    rw [hw]
    clear hw
    replace hts := hts.keep bC
    replace bD := below_trans bD bC
    clear bC
    clear hP
    refine hK.out _ _ (HS _ bD) (fun hHeld => ?_)
    clear hK K
    try simp only [puts, gets]
    refine any_next (i := 21) (by kernel_rfl) rfl rfl (fun K hK => ?_)
    go_simp
    go_at_call 35
    refine (rSameT_any _ _ ts [⟨pu, cu, tB⟩] _ hts hTL).mono ?_
    rintro e w24 ⟨rfl, bC⟩
    have hd : decide (tups ts = tups [(⟨pu, cu, tB⟩ : TT)]) = true := decide_eq_true (by rw [HTS.out]; rfl)
    rw [hd]
    clear hd hts hTL HTS
    replace bD := below_trans bD bC
    clear bC
    refine hK.out _ _ (HS _ bD) (fun hHeld => ?_)
    clear hK K
    try simp only [puts, gets]
    refine any_take (by kernel_rfl) (i := 22) (oi := _) (v := ?_) rfl rfl (by kernel_rfl) (by kernel_rfl) (by kernel_rfl) (fun _ _ _ h => h) (Or.inl ⟨by rfl, ?_⟩) hHeld ?_
    rotate_left
    · intro w' hSw; try dsimp only at hSw
      go_simp
      try with_reducible rfl
    try simp only [puts, gets]
    refine any_take (by kernel_rfl) (i := 23) (oi := _) (v := ?_) rfl rfl (by kernel_rfl) (by kernel_rfl) (by kernel_rfl) (fun _ _ _ h => h) (Or.inl ⟨by rfl, ?_⟩) hHeld ?_
    rotate_left
    · intro w' hSw; try dsimp only at hSw
      go_simp
      try with_reducible rfl
    try simp only [puts, gets]
    refine any_take (by kernel_rfl) (i := 24) (oi := _) (v := ?_) rfl rfl (by kernel_rfl) (by kernel_rfl) (by kernel_rfl) (fun _ _ _ h => h) (Or.inl ⟨by rfl, ?_⟩) hHeld ?_
    rotate_left
    · intro w' hSw; try dsimp only at hSw
      go_simp
      try with_reducible rfl
    try simp only [puts, gets]
    refine any_next (i := 25) (by kernel_rfl) rfl rfl (fun K hK => ?_)
    go_simp
    go_at_call 36
    refine (AtR_any _ [ra, rb] 70 _ (hT4.keep bD) (R3.keep bD) HM.out).mono ?_
    rintro e w25 ⟨u, rfl, ts, hts, hat, -, bC⟩
    have HTS := Lib.hid (f_at HR.out hat.out)
    replace HTS : Hid (tups ts = []) := Lib.hid (by have := HTS.out; exact this.trans (by decide +kernel))
    have hl : ts.length = (tups ts).length := (tups_length ts).symm
    rw [HTS.out] at hl
    obtain ⟨pt, ct, rfl, -⟩ := hts.shape
    replace hl : ts.length = 0 := hl
    rw [hl]
    clear hl hat
    replace bD := below_trans bD bC
    clear bC
    clear hts HTS
    refine hK.out _ _ (HS _ bD) (fun hHeld => ?_)
    clear hK K
    try simp only [puts, gets]
    refine any_take (by kernel_rfl) (i := 26) (oi := _) (v := ?_) rfl rfl (by kernel_rfl) (by kernel_rfl) (by kernel_rfl) (fun _ _ _ h => h) (Or.inl ⟨by rfl, ?_⟩) hHeld ?_
    rotate_left
    · intro w' hSw; try dsimp only at hSw
      go_simp
      try with_reducible rfl
    try simp only [puts, gets]
    refine any_take (by kernel_rfl) (i := 27) (oi := _) (v := ?_) rfl rfl (by kernel_rfl) (by kernel_rfl) (by kernel_rfl) (fun _ _ _ h => h) (Or.inl ⟨by rfl, ?_⟩) hHeld ?_
    rotate_left
    · intro w' hSw; try dsimp only at hSw
      go_simp
      try with_reducible rfl
    try simp only [puts, gets]
    refine any_take (by kernel_rfl) (i := 28) (oi := _) (v := ?_) rfl rfl (by kernel_rfl) (by kernel_rfl) (by kernel_rfl) (fun _ _ _ h => h) (Or.inl ⟨by rfl, ?_⟩) hHeld ?_
    rotate_left
    · intro w' hSw; try dsimp only at hSw
      go_simp
      try with_reducible rfl
    try simp only [puts, gets]
    refine any_take (by kernel_rfl) (i := 29) (oi := _) (v := ?_) rfl rfl (by kernel_rfl) (by kernel_rfl) (by kernel_rfl) (fun _ _ _ h => h) (Or.inl ⟨by rfl, ?_⟩) hHeld ?_
    rotate_left
    · intro w' hSw; try dsimp only at hSw
      go_simp
      try with_reducible rfl
    try simp only [puts, gets]
    refine any_done (by kernel_rfl) ?_ _
    refine NoPanic.normal ?_
    go_wp2
    go_meet
    case rel => exact ⟨rfl, bD⟩
  case rest =>
  obtain ⟨rfl, bR⟩ := hcut
  obtain ⟨w40, hnew⟩ : ∃ x, wc = x := ⟨_, rfl⟩
  rw [hnew] at bR
  rw [hnew]
  clear hnew
  replace R3 := R3.keep bR
  replace C3 := C3.keep bR
  replace I4 := I4.keep bR
  replace C4 := C4.keep bR
  replace I5 := I5.keep bR
  replace hT4 := hT4.keep bR
  replace BB := below_trans BB bR
  clear bR
  have HRA : Hid (rows [ra] = [(tA, [(0, 4)])]) := Lib.hid (by show [ra.rw] = _; rw [HA.out])
  have HRB : Hid (rows [rb] = [(tB, [(2, 6)])]) := Lib.hid (by show [rb.rw] = _; rw [HB.out])
  have RT : IsRel w40 (.slice (some ⟨g, 2, none⟩) 1 1) [rb] := by have := R3.tail; simpa using this
  have HM1 : Hid (Sml 10000 [ra]) := Lib.hid ⟨by simp, fun x hx => HM.out.each x (by rw [List.mem_singleton.1 hx]; simp)⟩
  have HM2 : Hid (Sml 10000 [rb]) := Lib.hid ⟨by simp, fun x hx => HM.out.each x (by rw [List.mem_singleton.1 hx]; simp)⟩
  go_upto_region 5 with fail
  go_cut [5] from 75 to 110 (fun v wx => v = .bool true ∧ Below w40.heap.size w40 wx)
  case first =>
    have HS : ∀ w', Below w40.heap.size w40 w' → (fun w' => w'.cell? ⟨g, 0, none⟩ = some ra.av ∧ w'.cell? ⟨g, 1, none⟩ = some ra.wv ∧ w'.cell? ⟨g, 2, none⟩ = some rb.av ∧ w'.cell? ⟨g, 3, none⟩ = some rb.wv) w' := fun w' hb => ⟨(C3.keep hb).at_ (j := 0) rfl, (C3.keep hb).at_ (j := 1) rfl, (C3.keep hb).at_ (j := 2) rfl, (C3.keep hb).at_ (j := 3) rfl⟩
    try simp only [List.append_eq, List.cons_append, List.nil_append]
    refine wp_region_noPanic ?_
    refine wp_region_late (fun w' => w'.cell? ⟨g, 0, none⟩ = some ra.av ∧ w'.cell? ⟨g, 1, none⟩ = some ra.wv ∧ w'.cell? ⟨g, 2, none⟩ = some rb.av ∧ w'.cell? ⟨g, 3, none⟩ = some rb.wv) 37 (by kernel_rfl) (HS _ (Below.refl _ _).drew) (fun hHeld => ?_)
    obtain ⟨wd, hwd⟩ : ∃ x : World, w40.drew = x := ⟨_, rfl⟩
    have bD : Below w40.heap.size w40 wd := by rw [← hwd]; exact (Below.refl _ _).drew
    rw [hwd]
    clear hwd
    have hHeld := HS _ bD
    refine any_take (by kernel_rfl) (i := 0) (oi := _) (v := ?_) rfl rfl (by kernel_rfl) (by kernel_rfl) (by kernel_rfl) (fun _ _ _ h => h) (Or.inl ⟨by rfl, ?_⟩) hHeld ?_
    rotate_left
    · intro w' hSw; try dsimp only at hSw
      go_simp
      try with_reducible rfl
    try simp only [puts, gets]
    refine any_take (by kernel_rfl) (i := 1) (oi := _) (v := ?_) rfl rfl (by kernel_rfl) (by kernel_rfl) (by kernel_rfl) (fun _ _ _ h => h) (Or.inl ⟨by rfl, ?_⟩) hHeld ?_
    rotate_left
    · intro w' hSw; try dsimp only at hSw
      go_simp
      try with_reducible rfl
    try simp only [puts, gets]
    refine any_take (by kernel_rfl) (i := 6) (oi := _) (v := ?_) rfl rfl (by kernel_rfl) (by kernel_rfl) (by kernel_rfl) (fun _ _ _ h => h) (Or.inl ⟨by rfl, ?_⟩) hHeld ?_
    rotate_left
    · intro w' hSw; try dsimp only at hSw
      go_simp
      try with_reducible rfl
    try simp only [puts, gets]
    refine any_take (by kernel_rfl) (i := 7) (oi := _) (v := ?_) rfl rfl (by kernel_rfl) (by kernel_rfl) (by kernel_rfl) (fun _ _ _ h => h) (Or.inl ⟨by rfl, ?_⟩) hHeld ?_
    rotate_left
    · intro w' hSw; try dsimp only at hSw
      go_simp
      try with_reducible rfl
    try simp only [puts, gets]
    refine any_next (i := 2) (by kernel_rfl) rfl rfl (fun K hK => ?_)
    go_simp
    go_at_call 71
    refine (Int_any 2 _).mono ?_
    rintro e w26 ⟨rfl, bC⟩
    replace bD := below_trans bD bC
    clear bC
    refine hK.out _ _ (HS _ bD) (fun hHeld => ?_)
    clear hK K
    try simp only [puts, gets]
    refine any_take (by kernel_rfl) (i := 3) (oi := _) (v := ?_) rfl rfl (by kernel_rfl) (by kernel_rfl) (by kernel_rfl) (fun _ _ _ h => h) (Or.inl ⟨by rfl, ?_⟩) hHeld ?_
    rotate_left
    · intro w' hSw; try dsimp only at hSw
      go_simp
      try with_reducible rfl
    try simp only [puts, gets]
    refine any_next (i := 4) (by kernel_rfl) rfl rfl (fun K hK => ?_)
    go_simp
    have bC := below_new w26 (.cells #[strV [88], .int .i64 0, .int .i64 0, strV [], strV [], .int .i64 1, .int .i64 2, strV []] 60)
    have hTm : IsTerms (w26.alloc (.cells #[strV [88], .int .i64 0, .int .i64 0, strV [], strV [], .int .i64 1, .int .i64 2, strV []] 60)) (.slice (some ⟨w26.heap.size, 0, none⟩) 2 2) [tmX, tmC (intVl 2)] := IsRows.lit w26 [tmX, tmC (intVl 2)] encsTm (by simp)
    obtain ⟨w27, hw⟩ : ∃ z, w26.alloc (.cells #[strV [88], .int .i64 0, .int .i64 0, strV [], strV [], .int .i64 1, .int .i64 2, strV []] 60) = z := ⟨_, rfl⟩
    rw [hw] at bC hTm
    rw [hw]
    clear hw
    replace bD := below_trans bD bC
    clear bC
    refine hK.out _ _ (HS _ bD) (fun hHeld => ?_)
    clear hK K
    try simp only [puts, gets]
    refine any_next (i := 5) (by kernel_rfl) rfl rfl (fun K hK => ?_)
    go_simp
    go_at_call 39
    refine (SelectR_any _ _ [ra, rb] [tmX, tmC (intVl 2)] _ (hT4.keep bD) (R3.keep bD) hTm HM.out).mono ?_
    rintro e w28 ⟨u, rfl, zs, RZ, OZ, bC⟩
    replace RZ := RZ.rel
    have HZ := Lib.hid (f_select HR.out OZ)
    obtain ⟨pz, cz, rfl, -⟩ := RZ.shape
    clear OZ hTm
    replace bD := below_trans bD bC
    clear bC
    refine hK.out _ _ (HS _ bD) (fun hHeld => ?_)
    clear hK K
    try simp only [puts, gets]
    refine any_next (i := 8) (by kernel_rfl) rfl rfl (fun K hK => ?_)
    go_simp
    go_at_call 24
    refine (rSameR_any _ _ zs [rb] _ RZ (RT.keep bD)).mono ?_
    rintro e w29 ⟨rfl, bC⟩
    have hd : decide (rows zs = rows [rb]) = true := decide_eq_true (by rw [HZ.out]; show _ = [rb.rw]; rw [HB.out])
    rw [hd]
    clear hd RZ HZ
    replace bD := below_trans bD bC
    clear bC
    refine hK.out _ _ (HS _ bD) (fun hHeld => ?_)
    clear hK K
    try simp only [puts, gets]
    refine any_take (by kernel_rfl) (i := 9) (oi := _) (v := ?_) rfl rfl (by kernel_rfl) (by kernel_rfl) (by kernel_rfl) (fun _ _ _ h => h) (Or.inl ⟨by rfl, ?_⟩) hHeld ?_
    rotate_left
    · intro w' hSw; try dsimp only at hSw
      go_simp
      try with_reducible rfl
    try simp only [puts, gets]
    refine any_take (by kernel_rfl) (i := 10) (oi := _) (v := ?_) rfl rfl (by kernel_rfl) (by kernel_rfl) (by kernel_rfl) (fun _ _ _ h => h) (Or.inl ⟨by rfl, ?_⟩) hHeld ?_
    rotate_left
    · intro w' hSw; try dsimp only at hSw
      go_simp
      try with_reducible rfl
    try simp only [puts, gets]
    refine any_take (by kernel_rfl) (i := 11) (oi := _) (v := ?_) rfl rfl (by kernel_rfl) (by kernel_rfl) (by kernel_rfl) (fun _ _ _ h => h) (Or.inl ⟨by rfl, ?_⟩) hHeld ?_
    rotate_left
    · intro w' hSw; try dsimp only at hSw
      go_simp
      try with_reducible rfl
    try simp only [puts, gets]
    refine any_take (by kernel_rfl) (i := 12) (oi := _) (v := ?_) rfl rfl (by kernel_rfl) (by kernel_rfl) (by kernel_rfl) (fun _ _ _ h => h) (Or.inl ⟨by rfl, ?_⟩) hHeld ?_
    rotate_left
    · intro w' hSw; try dsimp only at hSw
      go_simp
      try with_reducible rfl
    try simp only [puts, gets]
    refine any_next (i := 13) (by kernel_rfl) rfl rfl (fun K hK => ?_)
    go_simp
    have bC := below_new w29 (.cells #[strV [88], .int .i64 0, .int .i64 0, strV [], strV [88], .int .i64 0, .int .i64 0, strV []] 60)
    have hTm : IsTerms (w29.alloc (.cells #[strV [88], .int .i64 0, .int .i64 0, strV [], strV [88], .int .i64 0, .int .i64 0, strV []] 60)) (.slice (some ⟨w29.heap.size, 0, none⟩) 2 2) [tmX, tmX] := IsRows.lit w29 [tmX, tmX] encsTm (by simp)
    obtain ⟨w30, hw⟩ : ∃ z, w29.alloc (.cells #[strV [88], .int .i64 0, .int .i64 0, strV [], strV [88], .int .i64 0, .int .i64 0, strV []] 60) = z := ⟨_, rfl⟩
    rw [hw] at bC hTm
    rw [hw]
    clear hw
    replace bD := below_trans bD bC
    clear bC
    refine hK.out _ _ (HS _ bD) (fun hHeld => ?_)
    clear hK K
    try simp only [puts, gets]
    refine any_next (i := 14) (by kernel_rfl) rfl rfl (fun K hK => ?_)
    go_simp
    go_at_call 39
    refine (SelectR_any _ _ [ra, rb] [tmX, tmX] _ (hT4.keep bD) (R3.keep bD) hTm HM.out).mono ?_
    rintro e w31 ⟨u, rfl, zs, RZ, OZ, bC⟩
    replace RZ := RZ.rel
    have hz := congrArg List.length (f_select2 HR.out OZ)
    rw [rows_length] at hz
    obtain ⟨pz, cz, rfl, -⟩ := RZ.shape
    replace hz : zs.length = 0 := hz
    rw [hz]
    clear hz RZ OZ
    clear hTm
    replace bD := below_trans bD bC
    clear bC
    refine hK.out _ _ (HS _ bD) (fun hHeld => ?_)
    clear hK K
    try simp only [puts, gets]
    refine any_take (by kernel_rfl) (i := 15) (oi := _) (v := ?_) rfl rfl (by kernel_rfl) (by kernel_rfl) (by kernel_rfl) (fun _ _ _ h => h) (Or.inl ⟨by rfl, ?_⟩) hHeld ?_
    rotate_left
    · intro w' hSw; try dsimp only at hSw
      go_simp
      try with_reducible rfl
    try simp only [puts, gets]
    refine any_take (by kernel_rfl) (i := 16) (oi := _) (v := ?_) rfl rfl (by kernel_rfl) (by kernel_rfl) (by kernel_rfl) (fun _ _ _ h => h) (Or.inl ⟨by rfl, ?_⟩) hHeld ?_
    rotate_left
    · intro w' hSw; try dsimp only at hSw
      go_simp
      try with_reducible rfl
    try simp only [puts, gets]
    refine any_take (by kernel_rfl) (i := 17) (oi := _) (v := ?_) rfl rfl (by kernel_rfl) (by kernel_rfl) (by kernel_rfl) (fun _ _ _ h => h) (Or.inl ⟨by rfl, ?_⟩) hHeld ?_
    rotate_left
    · intro w' hSw; try dsimp only at hSw
      go_simp
      try with_reducible rfl
    try simp only [puts, gets]
    refine any_take (by kernel_rfl) (i := 18) (oi := _) (v := ?_) rfl rfl (by kernel_rfl) (by kernel_rfl) (by kernel_rfl) (fun _ _ _ h => h) (Or.inl ⟨by rfl, ?_⟩) hHeld ?_
    rotate_left
    · intro w' hSw; try dsimp only at hSw
      go_simp
      try with_reducible rfl
    try simp only [puts, gets]
    refine any_take (by kernel_rfl) (i := 19) (oi := _) (v := ?_) rfl rfl (by kernel_rfl) (by kernel_rfl) (by kernel_rfl) (fun _ _ _ h => h) (Or.inl ⟨by rfl, ?_⟩) hHeld ?_
    rotate_left
    · intro w' hSw; try dsimp only at hSw
      go_simp
      try with_reducible rfl
    try simp only [puts, gets]
    refine any_take (by kernel_rfl) (i := 20) (oi := _) (v := ?_) rfl rfl (by kernel_rfl) (by kernel_rfl) (by kernel_rfl) (fun _ _ _ h => h) (Or.inl ⟨by rfl, ?_⟩) hHeld ?_
    rotate_left
    · intro w' hSw; try dsimp only at hSw
      go_simp
      try with_reducible rfl
    try simp only [puts, gets]
    refine any_take (by kernel_rfl) (i := 21) (oi := _) (v := ?_) rfl rfl (by kernel_rfl) (by kernel_rfl) (by kernel_rfl) (fun _ _ _ h => h) (Or.inl ⟨by rfl, ?_⟩) hHeld ?_
    rotate_left
    · intro w' hSw; try dsimp only at hSw
      go_simp
      try with_reducible rfl
    try simp only [puts, gets]
    refine any_take (by kernel_rfl) (i := 22) (oi := _) (v := ?_) rfl rfl (by kernel_rfl) (by kernel_rfl) (by kernel_rfl) (fun _ _ _ h => h) (Or.inl ⟨by rfl, ?_⟩) hHeld ?_
    rotate_left
    · intro w' hSw; try dsimp only at hSw
      go_simp
      try with_reducible rfl
    try simp only [puts, gets]
    refine any_take (by kernel_rfl) (i := 24) (oi := _) (v := ?_) rfl rfl (by kernel_rfl) (by kernel_rfl) (by kernel_rfl) (fun _ _ _ h => h) (Or.inl ⟨by rfl, ?_⟩) hHeld ?_
    rotate_left
    · intro w' hSw; try dsimp only at hSw
      go_simp
      try with_reducible rfl
    try simp only [puts, gets]
    refine any_next (i := 23) (by kernel_rfl) rfl rfl (fun K hK => ?_)
    go_simp
    go_at_call 29
    refine (UnionR_any _ _ [rb] [ra] _ (hT4.keep bD) (RT.keep bD) ((R3.keep bD).take (m := 1) (by simp)) HM2.out HM1.out).mono ?_
    rintro e w32 ⟨u, rfl, zs, RZ, OZ, bC⟩
    replace RZ := RZ.rel
    have HZ := Lib.hid (f_union HRB.out HRA.out OZ)
    obtain ⟨pz, cz, rfl, -⟩ := RZ.shape
    clear OZ
    replace bD := below_trans bD bC
    clear bC
    refine hK.out _ _ (HS _ bD) (fun hHeld => ?_)
    clear hK K
    try simp only [puts, gets]
    refine any_next (i := 25) (by kernel_rfl) rfl rfl (fun K hK => ?_)
    go_simp
    go_at_call 24
    refine (rSameR_any _ _ zs [ra, rb] _ RZ (R3.keep bD)).mono ?_
    rintro e w33 ⟨rfl, bC⟩
    have hd : decide (rows zs = rows [ra, rb]) = true := decide_eq_true (by rw [HZ.out, HR.out])
    rw [hd]
    clear hd RZ HZ
    replace bD := below_trans bD bC
    clear bC
    refine hK.out _ _ (HS _ bD) (fun hHeld => ?_)
    clear hK K
    try simp only [puts, gets]
    refine any_take (by kernel_rfl) (i := 26) (oi := _) (v := ?_) rfl rfl (by kernel_rfl) (by kernel_rfl) (by kernel_rfl) (fun _ _ _ h => h) (Or.inl ⟨by rfl, ?_⟩) hHeld ?_
    rotate_left
    · intro w' hSw; try dsimp only at hSw
      go_simp
      try with_reducible rfl
    try simp only [puts, gets]
    refine any_take (by kernel_rfl) (i := 27) (oi := _) (v := ?_) rfl rfl (by kernel_rfl) (by kernel_rfl) (by kernel_rfl) (fun _ _ _ h => h) (Or.inl ⟨by rfl, ?_⟩) hHeld ?_
    rotate_left
    · intro w' hSw; try dsimp only at hSw
      go_simp
      try with_reducible rfl
    try simp only [puts, gets]
    refine any_take (by kernel_rfl) (i := 28) (oi := _) (v := ?_) rfl rfl (by kernel_rfl) (by kernel_rfl) (by kernel_rfl) (fun _ _ _ h => h) (Or.inl ⟨by rfl, ?_⟩) hHeld ?_
    rotate_left
    · intro w' hSw; try dsimp only at hSw
      go_simp
      try with_reducible rfl
    try simp only [puts, gets]
    refine any_take (by kernel_rfl) (i := 29) (oi := _) (v := ?_) rfl rfl (by kernel_rfl) (by kernel_rfl) (by kernel_rfl) (fun _ _ _ h => h) (Or.inl ⟨by rfl, ?_⟩) hHeld ?_
    rotate_left
    · intro w' hSw; try dsimp only at hSw
      go_simp
      try with_reducible rfl
    try simp only [puts, gets]
    refine any_take (by kernel_rfl) (i := 30) (oi := _) (v := ?_) rfl rfl (by kernel_rfl) (by kernel_rfl) (by kernel_rfl) (fun _ _ _ h => h) (Or.inl ⟨by rfl, ?_⟩) hHeld ?_
    rotate_left
    · intro w' hSw; try dsimp only at hSw
      go_simp
      try with_reducible rfl
    try simp only [puts, gets]
    refine any_take (by kernel_rfl) (i := 31) (oi := _) (v := ?_) rfl rfl (by kernel_rfl) (by kernel_rfl) (by kernel_rfl) (fun _ _ _ h => h) (Or.inl ⟨by rfl, ?_⟩) hHeld ?_
    rotate_left
    · intro w' hSw; try dsimp only at hSw
      go_simp
      try with_reducible rfl
    try simp only [puts, gets]
    refine any_next (i := 32) (by kernel_rfl) rfl rfl (fun K hK => ?_)
    go_simp
    go_at_call 31
    refine (MeetR_any _ _ [ra] [rb] _ (hT4.keep bD) ((R3.keep bD).take (m := 1) (by simp)) (RT.keep bD) HM1.out HM2.out).mono ?_
    rintro e w34 ⟨u, rfl, zs, RZ, OZ, bC⟩
    replace RZ := RZ.rel
    have hz := congrArg List.length (f_meet HRA.out HRB.out OZ)
    rw [rows_length] at hz
    obtain ⟨pz, cz, rfl, -⟩ := RZ.shape
    replace hz : zs.length = 0 := hz
    rw [hz]
    clear hz RZ OZ
    replace bD := below_trans bD bC
    clear bC
    refine hK.out _ _ (HS _ bD) (fun hHeld => ?_)
    clear hK K
    try simp only [puts, gets]
    refine any_take (by kernel_rfl) (i := 33) (oi := _) (v := ?_) rfl rfl (by kernel_rfl) (by kernel_rfl) (by kernel_rfl) (fun _ _ _ h => h) (Or.inl ⟨by rfl, ?_⟩) hHeld ?_
    rotate_left
    · intro w' hSw; try dsimp only at hSw
      go_simp
      try with_reducible rfl
    try simp only [puts, gets]
    refine any_take (by kernel_rfl) (i := 34) (oi := _) (v := ?_) rfl rfl (by kernel_rfl) (by kernel_rfl) (by kernel_rfl) (fun _ _ _ h => h) (Or.inl ⟨by rfl, ?_⟩) hHeld ?_
    rotate_left
    · intro w' hSw; try dsimp only at hSw
      go_simp
      try with_reducible rfl
    try simp only [puts, gets]
    refine any_take (by kernel_rfl) (i := 35) (oi := _) (v := ?_) rfl rfl (by kernel_rfl) (by kernel_rfl) (by kernel_rfl) (fun _ _ _ h => h) (Or.inl ⟨by rfl, ?_⟩) hHeld ?_
    rotate_left
    · intro w' hSw; try dsimp only at hSw
      go_simp
      try with_reducible rfl
    try simp only [puts, gets]
    refine any_take (by kernel_rfl) (i := 36) (oi := _) (v := ?_) rfl rfl (by kernel_rfl) (by kernel_rfl) (by kernel_rfl) (fun _ _ _ h => h) (Or.inl ⟨by rfl, ?_⟩) hHeld ?_
    rotate_left
    · intro w' hSw; try dsimp only at hSw
      go_simp
      try with_reducible rfl
    try simp only [puts, gets]
    refine any_done (by kernel_rfl) ?_ _
    refine NoPanic.normal ?_
    go_wp2
    go_meet
    case rel => exact ⟨rfl, bD⟩
  case rest =>
  obtain ⟨rfl, bR⟩ := hcut
  obtain ⟨w60, hnew⟩ : ∃ x, wc = x := ⟨_, rfl⟩
  rw [hnew] at bR
  rw [hnew]
  clear hnew
  replace R3 := R3.keep bR
  replace C3 := C3.keep bR
  replace I4 := I4.keep bR
  replace C4 := C4.keep bR
  replace I5 := I5.keep bR
  replace RT := RT.keep bR
  replace hT4 := hT4.keep bR
  replace BB := below_trans BB bR
  clear bR
  go_wp2_with fail
  refine (row_any [97] (short1 97) 1 1 2 _).mono ?_
  rintro e w61 ⟨rc, rfl, okc, ec, B61⟩
  unfold rowV
  have B62 := below_new w61 (.cells #[rc.av, rc.wv] 44)
  have RC : IsRel (w61.alloc (.cells #[rc.av, rc.wv] 44)) (.slice (some ⟨w61.heap.size, 0, none⟩) 1 1) [rc] := isRel_lit (l := [rc]) (by simp) (fun x hx => by rw [List.mem_singleton.1 hx]; exact okc)
  have B612 := below_trans B61 B62
  have HMC : Hid (Sml 10000 [rc]) := Lib.hid ⟨by simp, fun x hx => by
    have h1 : rc.t = tA := congrArg Prod.fst ec
    have h3 : rc.s = [(1, 2)] := congrArg Prod.snd ec
    rw [List.mem_singleton.1 hx, h1, h3]; decide⟩
  have HC := Lib.hid ec
  clear ec okc
  go_wp2_with fail
  refine (MinusR_any _ _ [ra, rb] [rc] _ (hT4.keep B612) (R3.keep B612) RC HM.out HMC.out).mono ?_
  rintro e w63 ⟨u, rfl, zs, RZ, OZ, B63⟩
  have hrc : rows [rc] = [(tA, [(1, 2)])] := by show [rc.rw] = _; rw [HC.out]
  have HZ := Lib.hid (f_minus HR.out hrc OZ)
  clear hrc
  replace RZ := RZ.rel
  have hz : zs.length = 2 := by have := congrArg List.length HZ.out; rwa [rows_length] at this
  obtain ⟨pz, cz, rfl, -⟩ := RZ.shape
  rw [hz] at RZ
  rw [hz]
  have HZL := Lib.hid hz
  clear hz RC OZ
  obtain ⟨x, y, hxy⟩ : ∃ x y, zs = [x, y] := by
    have := HZL.out
    rcases zs with _ | ⟨x, _ | ⟨y, _ | ⟨z, r⟩⟩⟩
    · cases this
    · cases this
    · exact ⟨x, y, rfl⟩
    · simp at this
  subst hxy
  have HXS : Hid (x.s = [(0, 1), (2, 4)]) := Lib.hid (by have := HZ.out; injection this with h1 _; exact congrArg Prod.snd h1)
  have bR := below_trans B612 B63
  clear B61 B62 B612 B63
  replace R3 := R3.keep bR
  replace C3 := C3.keep bR
  replace RT := RT.keep bR
  replace hT4 := hT4.keep bR
  replace BB := below_trans BB bR
  clear bR I4 C4 I5
  obtain ⟨zb, zo, hpz, z0, z1, okx⟩ := RZ.at_ (i := 0) rfl
  subst hpz
  simp only [Nat.zero_mul, Nat.add_zero] at z0 z1
  go_upto_region 7 with fail
  have HS : ∀ w', Below w63.heap.size w63 w' → (fun w' => w'.cell? ⟨g, 2, none⟩ = some rb.av ∧ w'.cell? ⟨g, 3, none⟩ = some rb.wv ∧ w'.cell? ⟨zb, zo, none⟩ = some x.av ∧ w'.cell? ⟨zb, zo + 1, none⟩ = some x.wv) w' := fun w' hb => ⟨(C3.keep hb).at_ (j := 2) rfl, (C3.keep hb).at_ (j := 3) rfl, cell_keep hb z0, cell_keep hb z1⟩
  try simp only [List.append_eq, List.cons_append, List.nil_append]
  refine wp_region_noPanic ?_
  refine wp_region_late (fun w' => w'.cell? ⟨g, 2, none⟩ = some rb.av ∧ w'.cell? ⟨g, 3, none⟩ = some rb.wv ∧ w'.cell? ⟨zb, zo, none⟩ = some x.av ∧ w'.cell? ⟨zb, zo + 1, none⟩ = some x.wv) 33 (by kernel_rfl) (HS _ (Below.refl _ _).drew) (fun hHeld => ?_)
  obtain ⟨wd, hwd⟩ : ∃ x : World, w63.drew = x := ⟨_, rfl⟩
  have bD : Below w63.heap.size w63 wd := by rw [← hwd]; exact (Below.refl _ _).drew
  rw [hwd]
  clear hwd
  have hHeld := HS _ bD
  refine any_take (by kernel_rfl) (i := 0) (oi := _) (v := ?_) rfl rfl (by kernel_rfl) (by kernel_rfl) (by kernel_rfl) (fun _ _ _ h => h) (Or.inl ⟨by rfl, ?_⟩) hHeld ?_
  rotate_left
  · intro w' hSw; try dsimp only at hSw
    go_simp
    try with_reducible rfl
  try simp only [puts, gets]
  refine any_take (by kernel_rfl) (i := 1) (oi := _) (v := ?_) rfl rfl (by kernel_rfl) (by kernel_rfl) (by kernel_rfl) (fun _ _ _ h => h) (Or.inl ⟨by rfl, ?_⟩) hHeld ?_
  rotate_left
  · intro w' hSw; try dsimp only at hSw
    go_simp
    try with_reducible rfl
  try simp only [puts, gets]
  refine any_take (by kernel_rfl) (i := 2) (oi := _) (v := ?_) rfl rfl (by kernel_rfl) (by kernel_rfl) (by kernel_rfl) (fun _ _ _ h => h) (Or.inl ⟨by rfl, ?_⟩) hHeld ?_
  rotate_left
  · intro w' hSw; try dsimp only at hSw
    go_simp
    try with_reducible rfl
  try simp only [puts, gets]
  refine any_take (by kernel_rfl) (i := 3) (oi := _) (v := ?_) rfl rfl (by kernel_rfl) (by kernel_rfl) (by kernel_rfl) (fun _ _ _ h => h) (Or.inl ⟨by rfl, ?_⟩) hHeld ?_
  rotate_left
  · intro w' hSw; try dsimp only at hSw
    go_simp
    try with_reducible rfl
  try simp only [puts, gets]
  refine any_take (by kernel_rfl) (i := 4) (oi := _) (v := ?_) rfl rfl (by kernel_rfl) (by kernel_rfl) (by kernel_rfl) (fun _ _ _ h => h) (Or.inl ⟨by rfl, ?_⟩) hHeld ?_
  rotate_left
  · intro w' hSw; try dsimp only at hSw
    go_simp
    try with_reducible rfl
  try simp only [puts, gets]
  refine any_take (by kernel_rfl) (i := 5) (oi := _) (v := ?_) rfl rfl (by kernel_rfl) (by kernel_rfl) (by kernel_rfl) (fun _ _ _ h => h) (Or.inl ⟨by rfl, ?_⟩) hHeld ?_
  rotate_left
  · intro w' hSw; try dsimp only at hSw
    go_simp
    try with_reducible rfl
  try simp only [puts, gets]
  refine any_take (by kernel_rfl) (i := 6) (oi := _) (v := ?_) rfl rfl (by kernel_rfl) (by kernel_rfl) (by kernel_rfl) (fun _ _ _ h => h) (Or.inl ⟨by rfl, ?_⟩) hHeld ?_
  rotate_left
  · intro w' hSw; try dsimp only at hSw
    go_simp
    try with_reducible rfl
  try simp only [puts, gets]
  refine any_take (by kernel_rfl) (i := 7) (oi := _) (v := ?_) rfl rfl (by kernel_rfl) (by kernel_rfl) (by kernel_rfl) (fun _ _ _ h => h) (Or.inl ⟨by rfl, ?_⟩) hHeld ?_
  rotate_left
  · intro w' hSw; try dsimp only at hSw
    go_simp
    try with_reducible rfl
  try simp only [puts, gets]
  refine any_take (by kernel_rfl) (i := 8) (oi := _) (v := ?_) rfl rfl (by kernel_rfl) (by kernel_rfl) (by kernel_rfl) (fun _ _ _ h => h) (Or.inl ⟨by rfl, ?_⟩) hHeld ?_
  rotate_left
  · intro w' hSw; try dsimp only at hSw
    go_simp
    try with_reducible rfl
  try simp only [puts, gets]
  refine any_take (by kernel_rfl) (i := 9) (oi := _) (v := ?_) rfl rfl (by kernel_rfl) (by kernel_rfl) (by kernel_rfl) (fun _ _ _ h => h) (Or.inl ⟨by rfl, ?_⟩) hHeld ?_
  rotate_left
  · intro w' hSw; try dsimp only at hSw
    go_simp
    try with_reducible rfl
  try simp only [puts, gets]
  refine any_take (by kernel_rfl) (i := 10) (oi := _) (v := ?_) rfl rfl (by kernel_rfl) (by kernel_rfl) (by kernel_rfl) (fun _ _ _ h => h) (Or.inl ⟨by rfl, ?_⟩) hHeld ?_
  rotate_left
  · intro w' hSw; try dsimp only at hSw
    go_simp
    try with_reducible rfl
  try simp only [puts, gets]
  refine any_take (by kernel_rfl) (i := 11) (oi := _) (v := ?_) rfl rfl (by kernel_rfl) (by kernel_rfl) (by kernel_rfl) (fun _ _ _ h => h) (Or.inl ⟨by rfl, ?_⟩) hHeld ?_
  rotate_left
  · intro w' hSw; try dsimp only at hSw
    go_simp
    try with_reducible rfl
  try simp only [puts, gets]
  refine any_take (by kernel_rfl) (i := 12) (oi := _) (v := ?_) rfl rfl (by kernel_rfl) (by kernel_rfl) (by kernel_rfl) (fun _ _ _ h => h) (Or.inl ⟨by rfl, ?_⟩) hHeld ?_
  rotate_left
  · intro w' hSw; try dsimp only at hSw
    go_simp
    try with_reducible rfl
  try simp only [puts, gets]
  refine any_take (by kernel_rfl) (i := 13) (oi := _) (v := ?_) rfl rfl (by kernel_rfl) (by kernel_rfl) (by kernel_rfl) (fun _ _ _ h => h) (Or.inl ⟨by rfl, ?_⟩) hHeld ?_
  rotate_left
  · intro w' hSw; try dsimp only at hSw
    go_simp
    try with_reducible rfl
  try simp only [puts, gets]
  refine any_take (by kernel_rfl) (i := 14) (oi := _) (v := ?_) rfl rfl (by kernel_rfl) (by kernel_rfl) (by kernel_rfl) (fun _ _ _ h => h) (Or.inl ⟨by rfl, ?_⟩) hHeld ?_
  rotate_left
  · intro w' hSw; try dsimp only at hSw
    go_simp
    try with_reducible rfl
  try simp only [puts, gets]
  refine any_take (by kernel_rfl) (i := 15) (oi := _) (v := ?_) rfl rfl (by kernel_rfl) (by kernel_rfl) (by kernel_rfl) (fun _ _ _ h => h) (Or.inl ⟨by rfl, ?_⟩) hHeld ?_
  rotate_left
  · intro w' hSw; try dsimp only at hSw
    go_simp
    try with_reducible rfl
  try simp only [puts, gets]
  refine any_take (by kernel_rfl) (i := 16) (oi := _) (v := ?_) rfl rfl (by kernel_rfl) (by kernel_rfl) (by kernel_rfl) (fun _ _ _ h => h) (Or.inl ⟨by rfl, ?_⟩) hHeld ?_
  rotate_left
  · intro w' hSw; try dsimp only at hSw
    go_simp
    try with_reducible rfl
  try simp only [puts, gets]
  refine any_take (by kernel_rfl) (i := 17) (oi := _) (v := ?_) rfl rfl (by kernel_rfl) (by kernel_rfl) (by kernel_rfl) (fun _ _ _ h => h) (Or.inl ⟨by rfl, ?_⟩) hHeld ?_
  rotate_left
  · intro w' hSw; try dsimp only at hSw
    go_simp
    try with_reducible rfl
  try simp only [puts, gets]
  refine any_take (by kernel_rfl) (i := 18) (oi := _) (v := ?_) rfl rfl (by kernel_rfl) (by kernel_rfl) (by kernel_rfl) (fun _ _ _ h => h) (Or.inl ⟨by rfl, ?_⟩) hHeld ?_
  rotate_left
  · intro w' hSw; try dsimp only at hSw
    go_simp
    try with_reducible rfl
  try simp only [puts, gets]
  refine any_next (i := 19) (by kernel_rfl) rfl rfl (fun K hK => ?_)
  go_simp
  have bC := below_new wd (.cells #[.int .i64 0, .int .i64 1, .int .i64 2, .int .i64 4] 86)
  have hSp : IsSpans (wd.alloc (.cells #[.int .i64 0, .int .i64 1, .int .i64 2, .int .i64 4] 86)) (.slice (some ⟨wd.heap.size, 0, none⟩) 2 2) [(0, 1), (2, 4)] := IsSpans.of_rows (IsRows.lit wd [(0, 1), (2, 4)] encsS (by simp))
  obtain ⟨w35, hw⟩ : ∃ z, wd.alloc (.cells #[.int .i64 0, .int .i64 1, .int .i64 2, .int .i64 4] 86) = z := ⟨_, rfl⟩
  rw [hw] at bC hSp
  rw [hw]
  clear hw
  replace bD := below_trans bD bC
  clear bC
  refine hK.out _ _ (HS _ bD) (fun hHeld => ?_)
  clear hK K
  try simp only [puts, gets]
  refine any_next (i := 20) (by kernel_rfl) rfl rfl (fun K hK => ?_)
  go_simp
  go_at_call 21
  refine (Same_any _ _ x.s [(0, 1), (2, 4)] _ (okx.keep bD).spans hSp).mono ?_
  rintro e w36 ⟨rfl, bC⟩
  have hd : decide (x.s = [(0, 1), (2, 4)]) = true := decide_eq_true HXS.out
  rw [hd]
  clear hd hSp
  replace bD := below_trans bD bC
  clear bC
  refine hK.out _ _ (HS _ bD) (fun hHeld => ?_)
  clear hK K
  try simp only [puts, gets]
  refine any_take (by kernel_rfl) (i := 21) (oi := _) (v := ?_) rfl rfl (by kernel_rfl) (by kernel_rfl) (by kernel_rfl) (fun _ _ _ h => h) (Or.inl ⟨by rfl, ?_⟩) hHeld ?_
  rotate_left
  · intro w' hSw; try dsimp only at hSw
    go_simp
    try with_reducible rfl
  try simp only [puts, gets]
  refine any_take (by kernel_rfl) (i := 22) (oi := _) (v := ?_) rfl rfl (by kernel_rfl) (by kernel_rfl) (by kernel_rfl) (fun _ _ _ h => h) (Or.inl ⟨by rfl, ?_⟩) hHeld ?_
  rotate_left
  · intro w' hSw; try dsimp only at hSw
    go_simp
    try with_reducible rfl
  try simp only [puts, gets]
  refine any_take (by kernel_rfl) (i := 23) (oi := _) (v := ?_) rfl rfl (by kernel_rfl) (by kernel_rfl) (by kernel_rfl) (fun _ _ _ h => h) (Or.inl ⟨by rfl, ?_⟩) hHeld ?_
  rotate_left
  · intro w' hSw; try dsimp only at hSw
    go_simp
    try with_reducible rfl
  try simp only [puts, gets]
  refine any_take (by kernel_rfl) (i := 26) (oi := _) (v := ?_) rfl rfl (by kernel_rfl) (by kernel_rfl) (by kernel_rfl) (fun _ _ _ h => h) (Or.inl ⟨by rfl, ?_⟩) hHeld ?_
  rotate_left
  · intro w' hSw; try dsimp only at hSw
    go_simp
    try with_reducible rfl
  try simp only [puts, gets]
  refine any_take (by kernel_rfl) (i := 27) (oi := _) (v := ?_) rfl rfl (by kernel_rfl) (by kernel_rfl) (by kernel_rfl) (fun _ _ _ h => h) (Or.inl ⟨by rfl, ?_⟩) hHeld ?_
  rotate_left
  · intro w' hSw; try dsimp only at hSw
    go_simp
    try with_reducible rfl
  try simp only [puts, gets]
  refine any_take (by kernel_rfl) (i := 28) (oi := _) (v := ?_) rfl rfl (by kernel_rfl) (by kernel_rfl) (by kernel_rfl) (fun _ _ _ h => h) (Or.inl ⟨by rfl, ?_⟩) hHeld ?_
  rotate_left
  · intro w' hSw; try dsimp only at hSw
    go_simp
    try with_reducible rfl
  try simp only [puts, gets]
  refine any_take (by kernel_rfl) (i := 29) (oi := _) (v := ?_) rfl rfl (by kernel_rfl) (by kernel_rfl) (by kernel_rfl) (fun _ _ _ h => h) (Or.inl ⟨by rfl, ?_⟩) hHeld ?_
  rotate_left
  · intro w' hSw; try dsimp only at hSw
    go_simp
    try with_reducible rfl
  try simp only [puts, gets]
  refine any_next (i := 24) (by kernel_rfl) rfl rfl (fun K hK => ?_)
  go_simp
  go_at_call 70
  refine (pair_any [98] (short1 98) 2 _).mono ?_
  rintro e w37 ⟨u, rfl, hP, -, bC⟩
  obtain ⟨pu, cu, rfl, -⟩ := id hP
  replace bD := below_trans bD bC
  clear bC
  refine hK.out _ _ (HS _ bD) (fun hHeld => ?_)
  clear hK K
  try simp only [puts, gets]
  refine any_next (i := 25) (by kernel_rfl) rfl rfl (fun K hK => ?_)
  go_simp
  go_at_call 22
  refine (WhenR_any _ _ [ra, rb] tB _ (hT4.keep bD) (R3.keep bD) hP HM.out).mono ?_
  rintro e w38 ⟨u, rfl, ⟨hW, -⟩, bC⟩
  rw [f_when HR.out] at hW
  obtain ⟨pw, cw, rfl, -⟩ := id hW
  clear hP
  replace bD := below_trans bD bC
  clear bC
  refine hK.out _ _ (HS _ bD) (fun hHeld => ?_)
  clear hK K
  try simp only [puts, gets]
  refine any_next (i := 30) (by kernel_rfl) rfl rfl (fun K hK => ?_)
  go_simp
  go_at_call 21
  refine (Same_any _ _ [(2, 6)] rb.s _ hW ((R3.2 rb (by simp)).keep bD).spans).mono ?_
  rintro e w39 ⟨rfl, bC⟩
  have hd : decide ([(2, 6)] = rb.s) = true := decide_eq_true HBs.out.symm
  rw [hd]
  clear hd hW
  replace bD := below_trans bD bC
  clear bC
  refine hK.out _ _ (HS _ bD) (fun hHeld => ?_)
  clear hK K
  try simp only [puts, gets]
  refine any_take (by kernel_rfl) (i := 31) (oi := _) (v := ?_) rfl rfl (by kernel_rfl) (by kernel_rfl) (by kernel_rfl) (fun _ _ _ h => h) (Or.inl ⟨by rfl, ?_⟩) hHeld ?_
  rotate_left
  · intro w' hSw; try dsimp only at hSw
    go_simp
    try with_reducible rfl
  try simp only [puts, gets]
  refine any_take (by kernel_rfl) (i := 32) (oi := _) (v := ?_) rfl rfl (by kernel_rfl) (by kernel_rfl) (by kernel_rfl) (fun _ _ _ h => h) (Or.inl ⟨by rfl, ?_⟩) hHeld ?_
  rotate_left
  · intro w' hSw; try dsimp only at hSw
    go_simp
    try with_reducible rfl
  try simp only [puts, gets]
  refine any_done (by kernel_rfl) ?_ _
  refine NoPanic.normal ?_
  go_wp2
  go_ret
  exact ⟨rfl, below_trans BB bD⟩
end Go.Proofs.YtdibijhaiaiifaaDoor
/- The walk of few. -/
namespace Go.Proofs.YtdibijhaiaiifaaDoor
open Go.RowKit
def fewL (xs ys : List RR) (t : Tp) (s : List Sp) : Bool := fewR xs && fewR ys && decide (t.length ≤ 6) && decide (s.length ≤ 20)
set_option maxHeartbeats 4000000 in
theorem few_any (va vb vt vs : Value) (xs ys : List RR) (t : Tp) (s : List Sp) (w : World) (ha : IsRel w va xs) (hb : IsRel w vb ys) (ht : IsVals w vt t) (hs : IsSpans w vs s) :
    Calls Tryd.prog 18 #[va, vb, vt, vs] w fun e w' => e = .returned (.bool (fewL xs ys t s)) ∧ Below w.heap.size w w' := by
  obtain ⟨pt, ct, rfl, -⟩ := ht
  obtain ⟨ps, cs, rfl, -⟩ := hs
  obtain ⟨r, hr⟩ : ∃ r, fewL xs ys t s = r := ⟨_, rfl⟩
  rw [hr]
  unfold fewL at hr
  go_enter Tryd.func18, Tryd.ntmps18
  go_wp2_with fail
  refine (fewR_any _ xs _ ha).mono ?_
  rintro e w1 ⟨rfl, B1⟩
  replace hb := hb.keep B1
  cases hx : fewR xs
  · rw [hx] at hr
    subst hr
    go_wp2
    go_ret
    exact ⟨rfl, B1⟩
  rw [hx] at hr
  clear hx
  go_wp2_with fail
  refine (fewR_any _ ys _ hb).mono ?_
  rintro e w2 ⟨rfl, B2⟩
  replace B1 := below_trans B1 B2
  cases hy : fewR ys
  · rw [hy] at hr
    subst hr
    go_wp2
    go_ret
    exact ⟨rfl, B1⟩
  rw [hy] at hr
  clear hy B2
  have e1 : (decide (t.length ≤ 6)) = decide ((t.length : Int) ≤ 6) := by apply decide_eq_decide.2; omega
  have e2 : (decide (s.length ≤ 20)) = decide ((s.length : Int) ≤ 20) := by apply decide_eq_decide.2; omega
  rw [e1, e2] at hr
  clear e1 e2
  simp only [Bool.true_and] at hr
  by_cases h1 : (t.length : Int) ≤ 6
  · by_cases h2 : (s.length : Int) ≤ 20
    · rw [decide_eq_true h1, decide_eq_true h2] at hr
      subst hr
      go_wp2
      go_ret
      exact ⟨rfl, B1⟩
    · rw [decide_eq_true h1, decide_eq_false h2] at hr
      subst hr
      go_wp2
      go_ret
      refine ⟨?_, B1⟩
      show Ending.returned (.bool (decide _)) = _
      rw [decide_eq_false (by omega)]
      rfl
  · rw [decide_eq_false h1] at hr
    subst hr
    go_wp2
    go_ret
    exact ⟨rfl, B1⟩
end Go.Proofs.YtdibijhaiaiifaaDoor
/- Plain laws of the operations on relations: what two results have in common. -/
namespace Go.Proofs.YtdibijhaiaiifaaDoor
theorem Sml.mono {n m : Nat} {xs : List RR} (h : Sml n xs) (hn : n ≤ m) : Sml m xs := ⟨Nat.le_trans h.len hn, h.each⟩
theorem Sml.nil (n : Nat) : Sml n [] := ⟨Nat.zero_le _, by simp⟩
section
variable {xs ys es bs cs ds : List RR} {o1 o2 : Bool → Bool → Bool}
/-- Two canonical relations of the same moments. -/
theorem same_of (ha : IsCan (rows es)) (hb : IsCan (rows bs)) (h : ∀ t k, k < 64 → mom (rows es) t k = mom (rows bs) t k) : rows es = rows bs := can_ext _ _ ha hb h
theorem none_of (ha : IsCan (rows es)) (h : ∀ t k, k < 64 → mom (rows es) t k = false) : es.length = 0 := by
  have := can_ext _ _ ha can_zero fun t k hk => by rw [h t k hk, mom_nil]
  rw [← rows_length, this]; rfl
theorem parts_union (hm : OpOf opM xs ys es) (hd : OpOf opD xs ys bs) (hu : OpOf opU es bs cs) (hx : OpOf opU xs [] ds) : rows cs = rows ds := by
  refine same_of hu.can hx.can fun t k hk => ?_
  rw [hu.mom t k hk, hm.mom t k hk, hd.mom t k hk, hx.mom t k hk]
  unfold opU opM opD
  show _ = (_ || mom [] t k)
  rw [mom_nil]
  cases mom (rows xs) t k <;> cases mom (rows ys) t k <;> rfl
theorem parts_meet (hm : OpOf opM xs ys es) (hd : OpOf opD xs ys bs) (hu : OpOf opM es bs cs) : cs.length = 0 := by
  refine none_of hu.can fun t k hk => ?_
  rw [hu.mom t k hk, hm.mom t k hk, hd.mom t k hk]
  unfold opM opD
  cases mom (rows xs) t k <;> cases mom (rows ys) t k <;> rfl
theorem parts_comm (hm : OpOf opM xs ys es) (hn : OpOf opM ys xs bs) : rows es = rows bs := by
  refine same_of hm.can hn.can fun t k hk => ?_
  rw [hm.mom t k hk, hn.mom t k hk]
  exact Bool.and_comm _ _
theorem parts_minus (hm : OpOf opM xs ys es) (hd : OpOf opD xs ys bs) (hn : OpOf opD xs bs cs) : rows cs = rows es := by
  refine same_of hn.can hm.can fun t k hk => ?_
  rw [hn.mom t k hk, hm.mom t k hk, hd.mom t k hk]
  unfold opM opD
  cases mom (rows xs) t k <;> cases mom (rows ys) t k <;> rfl
end
end Go.Proofs.YtdibijhaiaiifaaDoor
/- Plain laws of the law RelationOne. -/
namespace Go.Proofs.YtdibijhaiaiifaaDoor
section
variable {xs ns rs us ms zs vs : List RR} {t t' : Tp} {s s' : List Sp}
theorem one_insert (hn : OpOf opU xs [rr t s] ns) (hu : OpOf opU xs [rr t s] us) : rows ns = rows us := same_of hn.can hu.can fun t' k hk => by rw [hn.mom t' k hk, hu.mom t' k hk]
theorem one_remove (hr : OpOf opD xs [rr t s] rs) (hm : OpOf opD xs [rr t s] ms) : rows rs = rows ms := same_of hr.can hm.can fun t' k hk => by rw [hr.mom t' k hk, hm.mom t' k hk]
theorem one_other (h : t ≠ t') (k : Nat) : mom (rows [rr t s]) t' k = false := by
  rw [mom_one]
  show (decide (t = t') && _) = false
  rw [decide_eq_false h]; rfl
theorem one_self (k : Nat) : mom (rows [rr t s]) t k = setOf s k := by
  rw [mom_one]
  show (decide (t = t) && setOf s k) = _
  rw [decide_eq_true rfl]; rfl
theorem one_when_insert (hn : OpOf opU xs [rr t s] ns) (h : t ≠ t') : (canon fun k => mom (rows ns) t' k) = canon fun k => mom (rows xs) t' k := canon_ext fun k hk => by
  rw [hn.mom t' k hk, one_other h]
  exact Bool.or_false _
theorem one_when_remove (hr : OpOf opD xs [rr t s] rs) (h : t ≠ t') : (canon fun k => mom (rows rs) t' k) = canon fun k => mom (rows xs) t' k := canon_ext fun k hk => by
  rw [hr.mom t' k hk, one_other h]
  unfold opD
  cases mom (rows xs) t' k <;> rfl
theorem one_back (hn : OpOf opU xs [rr t s] ns) (hz : OpOf opD ns [rr t (canon fun k => setOf s k && !setOf (canon fun k => mom (rows xs) t k) k)] zs) (hv : OpOf opU xs [] vs) : rows zs = rows vs := by
  refine same_of hz.can hv.can fun t' k hk => ?_
  rw [hz.mom t' k hk, hn.mom t' k hk, hv.mom t' k hk]
  unfold opU opD
  show _ = (_ || mom [] t' k)
  rw [mom_nil]
  by_cases h : t = t'
  · subst h
    rw [one_self, one_self, setOf_canon _ k hk, setOf_canon _ k hk]
    cases mom (rows xs) t k <;> cases setOf s k <;> rfl
  · rw [one_other h, one_other h]
    cases mom (rows xs) t' k <;> rfl
theorem one_when (hn : OpOf opU xs [rr t s] ns) : (canon fun k => mom (rows ns) t k) = canon fun k => setOf (canon fun k => mom (rows xs) t k) k || setOf s k := canon_ext fun k hk => by
  rw [hn.mom t k hk, one_self, setOf_canon _ k hk]
  rfl
end
end Go.Proofs.YtdibijhaiaiifaaDoor
/- The walk of canonical. -/
namespace Go.Proofs.YtdibijhaiaiifaaDoor
open Go.RowKit
theorem can_step {xs : List RR} {i : Nat} {x : RR} (h : IsCan (rows (xs.take i))) (hx : xs[i]? = some x) (hw : OkW x.s) (hp : ∀ p, 0 < i → xs[i - 1]? = some p → cmpT p.t x.t < 0) : IsCan (rows (xs.take (i + 1))) := by
  rw [take_succ' hx, rows_append]
  refine ⟨?_, fun y hy => ?_⟩
  · cases i with
    | zero => simp [rows, Up]
    | succ j =>
      have hj : j < xs.length := by have := (List.getElem?_eq_some_iff.1 hx).1; omega
      obtain ⟨p, hpj⟩ := getElem_of_lt hj
      have h2 := h.1
      rw [take_succ' hpj, rows_append] at h2 ⊢
      exact up_last h2 (hp p (by omega) hpj)
  · rcases List.mem_append.1 hy with hy | hy
    · exact h.2 y hy
    · have : y = x.rw := by simpa [rows] using hy
      rw [this]; exact hw
def CanRet (xs : List RR) (w : World) (e : Ending) (w' : World) : Prop := ∃ b, e = .returned (.bool b) ∧ (b = true ↔ IsCan (rows xs)) ∧ Below w.heap.size w w'
theorem CanRet.no {xs : List RR} {w w' : World} (h : ¬ IsCan (rows xs)) (hb : Below w.heap.size w w') : CanRet xs w (.returned (.bool false)) w' := ⟨false, rfl, ⟨fun e => (by cases e), fun g => absurd g h⟩, hb⟩
theorem CanRet.yes {xs : List RR} {w w' : World} (h : IsCan (rows xs)) (hb : Below w.heap.size w w') : CanRet xs w (.returned (.bool true)) w' := ⟨true, rfl, ⟨fun _ => h, fun _ => rfl⟩, hb⟩
set_option maxHeartbeats 4000000 in
set_option maxRecDepth 1000000 in
theorem canonical_r (va : Value) (xs : List RR) (w : World) (hT : Tab w) (ha : IsRel w va xs) : Calls Tryd.prog 44 #[va] w (CanRet xs w) := by
  obtain ⟨pa, ca, rfl, hma⟩ := ha.shape
  go_enter Tryd.func44, Tryd.ntmps44
  go_wp2
  go_loopg [3] xs.length (fun g vi wr => ∃ i : Nat, vi = .int .i64 i ∧ i ≤ xs.length ∧ xs.length - i ≤ g ∧ Hid (IsCan (rows (xs.take i))) ∧ Below w.heap.size w wr)
  case atStart => exact ⟨0, rfl, Nat.zero_le _, Nat.le_refl _, Lib.hid ⟨trivial, by simp [rows]⟩, Below.refl _ _⟩
  case round =>
    obtain ⟨i, rfl, hi, hg, V, B⟩ := hrel
    by_cases hlt : i < xs.length
    · have hltz : (i : Int) < (xs.length : Int) := by omega
      obtain ⟨x, hx⟩ := getElem_of_lt hlt
      replace hT := hT.keep B
      replace ha := ha.keep B
      obtain ⟨b, off, e, c0, c1, rx⟩ := ha.at_ hx
      cases e
      obtain ⟨q, HQ⟩ : ∃ q : Bool, Hid (q = false ↔ (OkW x.s ∧ ∀ p, 0 < i → xs[i - 1]? = some p → cmpT p.t x.t < 0)) := bool_of _
      have HX := Lib.hid hx
      clear hx
      go_wp2_with fail
      go_cut [44] from 10 to 44 (fun v44 wx => v44 = .bool q ∧ Below wr.heap.size wr wx)
      case first =>
        by_cases e2 : x.s.length = 0
        · obtain rfl : q = true := by
            cases q with
            | true => rfl
            | false => exact absurd (List.eq_nil_of_length_eq_zero e2) (HQ.out.1 rfl).1.1
          have z2 : ((x.s.length : Int) == 0) = true := by rw [e2]; rfl
          clear e2
          go_region
          go_wp2
          go_meet
          case rel => exact ⟨rfl, (Below.refl _ _).drew⟩
        · have z2 : ((x.s.length : Int) == 0) = false := by rw [beq_eq_false_iff_ne]; omega
          have HE2 := Lib.hid e2
          clear e2
          have a_y0 := AftB.cell c0
          have a_y1 := AftB.cell c1
          cases hcv : decide (x.s = canon (setOf x.s))
          · obtain rfl : q = true := by
              cases q with
              | true => rfl
              | false => exact absurd (HQ.out.1 rfl).1.2.symm (of_decide_eq_false hcv)
            refine wp_region_aftB (by kernel_rfl) (by kernel_rfl) ?_
            repeat (go_big_quiet_step ((exact validSp_after hT rx.2 hcv _)))
            refine wpQuiet_nil ?_
            intro w5 B5
            clear a_y0 a_y1
            go_wp2
            go_meet
            case rel => exact ⟨rfl, B5⟩
          · have HOK := Lib.hid (show OkW x.s from ⟨fun e => HE2.out (by rw [e]; rfl), (of_decide_eq_true hcv).symm⟩)
            by_cases hi0 : i = 0
            · subst hi0
              obtain rfl : q = false := HQ.out.2 ⟨HOK.out, fun p h => by omega⟩
              refine wp_region_aftB (by kernel_rfl) (by kernel_rfl) ?_
              repeat (go_big_quiet_step ((exact validSp_after hT rx.2 hcv _)))
              refine wpQuiet_nil ?_
              intro w5 B5
              clear a_y0 a_y1
              go_wp2
              go_meet
              case rel => exact ⟨rfl, B5⟩
            · obtain ⟨j, rfl⟩ : ∃ j, i = j + 1 := ⟨i - 1, by omega⟩
              obtain ⟨p, hp⟩ := getElem_of_lt (l := xs) (i := j) (by omega)
              obtain ⟨_, _, e, d0, d1, rp⟩ := ha.at_ hp
              cases e
              obtain ⟨z, hz⟩ : ∃ z, cmpT p.t x.t = z := ⟨_, rfl⟩
              have HZ : Hid (q = decide (0 ≤ z)) := Lib.hid (by
                rw [Bool.eq_iff_iff, decide_eq_true_iff]
                constructor
                · intro hq
                  refine Int.not_lt.1 fun hl => ?_
                  have := HQ.out.2 ⟨HOK.out, fun p' _ hp' => by rw [Nat.add_sub_cancel, hp] at hp'; cases hp'; rw [hz]; exact hl⟩
                  rw [hq] at this; cases this
                · intro hl
                  cases q with
                  | true => rfl
                  | false => have := (HQ.out.1 rfl).2 p (by omega) (by rw [Nat.add_sub_cancel]; exact hp); omega)
              have a_d0 := AftB.cell d0
              have a_d1 := AftB.cell d1
              have k1 : (0 : Int) < (j : Int) + 1 := by omega
              have k2 : (j : Int) < (xs.length : Int) := by omega
              have k3 : (j : Int) + 1 - 1 = (j : Int) := by omega
              have hjw : IntKind.i64.wrap (j : Int) = (j : Int) := by rw [IntKind.wrap_i64]; omega
              clear hp
              refine wp_region_aftB (by kernel_rfl) (by kernel_rfl) ?_
              repeat (go_big_quiet_step ((first | exact validSp_after hT rx.2 hcv _ | exact rCmp_aftB rp.1 rx.1 hz _)))
              refine wpQuiet_nil ?_
              intro w5 B5
              clear a_y0 a_y1 a_d0 a_d1
              rw [← HZ.out]
              go_wp2
              go_meet
              case rel => exact ⟨rfl, B5⟩
      case rest =>
        obtain ⟨rfl, B5⟩ := hcut
        have B25 := below_trans B B5
        cases q with
        | true =>
          have RES := Lib.hid (show ¬ IsCan (rows xs) from fun g => by
            have h := HQ.out.2 ⟨g.2 x.rw (mem_rows.2 ⟨x, List.mem_of_getElem? HX.out, rfl⟩), fun p h0 hp => up_next g.1 hp (by rw [show i - 1 + 1 = i by omega]; exact HX.out)⟩
            cases h)
          clear c0 c1 rx
          go_wp2
          go_ret
          exact CanRet.no RES.out B25
        | false =>
          have VS := Lib.hid (can_step V.out HX.out (HQ.out.1 rfl).1 (HQ.out.1 rfl).2)
          clear c0 c1 rx
          go_wp2
          go_roundg (xs.length - (i + 1))
          case measure => omega
          case rel => exact ⟨i + 1, by go_num, hlt, Nat.le_refl _, VS, B25⟩
    · have hltz : ¬ (i : Int) < (xs.length : Int) := by omega
      have RES := Lib.hid (show IsCan (rows xs) by have := V.out; rwa [List.take_of_length_le (by omega)] at this)
      go_wp2
      go_ret
      exact CanRet.yes RES.out B
end Go.Proofs.YtdibijhaiaiifaaDoor
/- The walk of holds. -/
namespace Go.Proofs.YtdibijhaiaiifaaDoor
open Go.RowKit
def holdX (t : Tp) (m : Int) (x : RR) : Bool := decide (x.t = t) && inSet x.s m
def holdsL (xs : List RR) (t : Tp) (m : Int) : Bool := xs.any (holdX t m)
theorem holds_no {xs : List RR} {t : Tp} {m : Int} {i : Nat} {x : RR} (h : (xs.take i).any (holdX t m) = false) (hx : xs[i]? = some x) (hn : holdX t m x = false) : (xs.take (i + 1)).any (holdX t m) = false := by
  rw [take_succ' hx, List.any_append, h, List.any_cons, List.any_nil, hn]; rfl
theorem holds_yes {xs : List RR} {t : Tp} {m : Int} {i : Nat} {x : RR} (hx : xs[i]? = some x) (hn : holdX t m x = true) : holdsL xs t m = true := List.any_eq_true.2 ⟨x, List.mem_of_getElem? hx, hn⟩
set_option maxHeartbeats 4000000 in
set_option maxRecDepth 1000000 in
theorem holds_any (va vt : Value) (xs : List RR) (t : Tp) (m : Int) (w : World) (ha : IsRel w va xs) (ht : IsVals w vt t) : Calls Tryd.prog 41 #[va, vt, .int .i64 m] w fun e w' => e = .returned (.bool (holdsL xs t m)) ∧ Below w.heap.size w w' := by
  obtain ⟨r, hr⟩ : ∃ r, holdsL xs t m = r := ⟨_, rfl⟩
  rw [hr]
  have HR := Lib.hid hr
  clear hr
  obtain ⟨pa, ca, rfl, hma⟩ := ha.shape
  obtain ⟨pt, ct, rfl, -⟩ := id ht
  go_enter Tryd.func41, Tryd.ntmps41
  go_wp2
  go_loopg [7] xs.length (fun g vi wr => ∃ i : Nat, vi = .int .i64 i ∧ i ≤ xs.length ∧ xs.length - i ≤ g ∧ Hid ((xs.take i).any (holdX t m) = false) ∧ Below w.heap.size w wr)
  case atStart => exact ⟨0, rfl, Nat.zero_le _, Nat.le_refl _, Lib.hid rfl, Below.refl _ _⟩
  case round =>
    obtain ⟨i, rfl, hi, hg, V, bR⟩ := hrel
    replace ha := ha.keep bR
    replace ht := ht.keep bR
    by_cases hlt : i < xs.length
    · have hltz : (i : Int) < (xs.length : Int) := by omega
      obtain ⟨x, hx⟩ := getElem_of_lt hlt
      obtain ⟨b1, o1, e, c0, c1, rx⟩ := ha.at_ hx
      cases e
      have VN := Lib.hid (fun h => holds_no V.out hx h)
      have VY := Lib.hid (fun h => HR.out.symm.trans (holds_yes hx h))
      clear hx
      go_wp2_with fail
      refine (rCompareTuple_any _ _ x.t t _ rx.1 ht).mono ?_
      rintro e w1 ⟨rfl, hgw⟩
      have bN := hgw.below
      clear hgw
      replace ha := ha.keep bN
      replace ht := ht.keep bN
      replace rx := rx.keep bN
      replace c0 := cell_keep bN c0
      replace c1 := cell_keep bN c1
      replace bR := below_trans bR bN
      clear bN
      obtain ⟨z, hz⟩ : ∃ z, cmpT x.t t = z := ⟨_, rfl⟩
      rw [hz]
      by_cases h0 : z = 0
      · subst h0
        have he : x.t = t := (cmpT_is.eq _ _).1 hz
        have HE := Lib.hid he
        clear hz he
        go_wp2_with fail
        refine (Has_any _ x.s m _ rx.2).mono ?_
        rintro e w2 ⟨rfl, bN⟩
        replace bR := below_trans bR bN
        clear bN rx c0 c1
        cases hh : inSet x.s m
        · have VS := Lib.hid (VN.out (by unfold holdX; rw [hh]; exact Bool.and_false _))
          clear VN VY HE hh
          go_wp2
          go_roundg (xs.length - (i + 1))
          case measure => omega
          case rel => exact ⟨i + 1, by go_num, hlt, Nat.le_refl _, VS, bR⟩
        · have RES := Lib.hid (VY.out (by unfold holdX; rw [hh, decide_eq_true HE.out]; rfl))
          clear VN VY HE hh
          go_wp2
          go_ret
          exact ⟨by rw [RES.out]; rfl, bR⟩
      · have VS := Lib.hid (VN.out (by
          unfold holdX
          rw [decide_eq_false (fun e => h0 (by rw [← hz, e]; exact (cmpT_is.eq _ _).2 rfl))]; rfl))
        clear VN VY hz
        go_wp2
        go_roundg (xs.length - (i + 1))
        case measure => omega
        case rel => exact ⟨i + 1, by go_num, hlt, Nat.le_refl _, VS, bR⟩
    · have hltz : ¬ (i : Int) < (xs.length : Int) := by omega
      have RES := Lib.hid (show r = false by
        rw [← HR.out]; unfold holdsL
        have := V.out
        rwa [List.take_of_length_le (by omega)] at this)
      go_wp2
      go_ret
      exact ⟨by rw [RES.out]; rfl, bR⟩
end Go.Proofs.YtdibijhaiaiifaaDoor
/- Plain laws of the law RelationPoints. -/
namespace Go.Proofs.YtdibijhaiaiifaaDoor
theorem holds_out {xs : List RR} {t : Tp} {m : Int} (h : ¬ (0 ≤ m ∧ m < 64)) : holdsL xs t m = false := by
  unfold holdsL
  rw [List.any_eq_false]
  intro x _
  unfold holdX inSet
  by_cases h0 : 0 ≤ m
  · rw [decide_eq_false (fun h1 => h ⟨h0, h1⟩)]; simp
  · rw [decide_eq_false h0]; simp
theorem holds_mom (xs : List RR) (t : Tp) {k : Nat} (hk : k < 64) : holdsL xs t (k : Int) = mom (rows xs) t k := by
  have h0 : (0 : Int) ≤ (k : Int) := by omega
  have h1 : (k : Int) < 64 := by omega
  unfold holdsL
  induction xs with
  | nil => rfl
  | cons x xs ih =>
    rw [List.any_cons, ih]
    show _ = mom (x.rw :: rows xs) t k
    rw [mom_cons]
    unfold holdX inSet
    rw [decide_eq_true h0, decide_eq_true h1]
    rfl
theorem holds_op {op : Bool → Bool → Bool} (h0 : op false false = false) {xs ys zs : List RR} (h : OpOf op xs ys zs) (t : Tp) (m : Int) : holdsL zs t m = op (holdsL xs t m) (holdsL ys t m) := by
  by_cases hm : 0 ≤ m ∧ m < 64
  · obtain ⟨k, rfl⟩ := Int.eq_ofNat_of_zero_le hm.1
    have hk : k < 64 := by omega
    rw [holds_mom zs t hk, holds_mom xs t hk, holds_mom ys t hk, h.mom t k hk]
  · rw [holds_out hm, holds_out hm, holds_out hm, h0]
theorem holds_one (t t' : Tp) (s : List Sp) (m : Int) : holdsL [rr t s] t' m = (decide (t = t') && inSet s m) := Bool.or_false _
end Go.Proofs.YtdibijhaiaiifaaDoor
/- The walk of the law RelationOne. -/
namespace Go.Proofs.YtdibijhaiaiifaaDoor
open Go.RowKit
theorem few_tuple {xs ys : List RR} {t : Tp} {s : List Sp} (h : fewL xs ys t s = true) : fewR xs = true ∧ fewR ys = true ∧ t.length ≤ 6 ∧ s.length ≤ 20 := by
  unfold fewL at h
  simp only [Bool.and_eq_true, decide_eq_true_eq] at h
  exact ⟨h.1.1.1, h.1.1.2, h.1.2, h.2⟩
theorem fresh_short (S : Nat → Bool) : (canon S).length ≤ 64 := Nat.le_trans (canon_le S) (by decide)
set_option maxHeartbeats 4000000 in
set_option maxRecDepth 1000000 in
theorem law9_any (va vt vs : Value) (xs : List RR) (t : Tp) (s : List Sp) (w : World) (hT : Tab w) (ha : IsRel w va xs) (ht : IsVals w vt t) (hs : IsSpans w vs s) : Calls Tryd.prog 9 #[va, vt, vs] w fun e w' => e = .returned (.bool true) ∧ Below w.heap.size w w' := by
  obtain ⟨pt, ct, rfl, -⟩ := id ht
  obtain ⟨ps, cs, rfl, -⟩ := id hs
  obtain ⟨pa, ca, rfl, hma⟩ := ha.shape
  go_enter Tryd.func9, Tryd.ntmps9
  go_wp2_with fail
  refine (head_any _ hT).mono ?_
  rintro e w1 ⟨rfl, B1⟩
  replace hT := hT.keep B1
  replace ha := ha.keep B1
  replace ht := ht.keep B1
  replace hs := hs.keep B1
  go_wp2_with fail
  refine (few_any _ _ _ _ xs [] t s _ ha (IsRel.nil _) ht hs).mono ?_
  rintro e w2 ⟨rfl, bN⟩
  replace hT := hT.keep bN
  replace ha := ha.keep bN
  replace ht := ht.keep bN
  replace hs := hs.keep bN
  replace B1 := below_trans B1 bN
  clear bN
  cases hf : fewL xs [] t s
  · clear hf
    go_wp2
    go_ret
    exact ⟨rfl, B1⟩
  obtain ⟨f1, -, f3, f4⟩ := few_tuple hf
  clear hf
  have HX := Lib.hid (fewR_sml f1)
  have H3 := Lib.hid f3
  have H4 := Lib.hid f4
  clear f1 f3 f4
  have bN := below_new w2 (.cells #[.slice pt t.length ct, .slice ps s.length cs] 44)
  have ho : IsRel (w2.alloc (.cells #[.slice pt t.length ct, .slice ps s.length cs] 44)) (.slice (some ⟨w2.heap.size, 0, none⟩) 1 1) [⟨pt, ct, t, ps, cs, s⟩] := ⟨IsRows.lit w2 [_] encsR (by simp), fun x hx => by rw [List.mem_singleton.1 hx]; exact RowOk.keep ⟨ht, hs⟩ bN⟩
  replace hT := hT.keep bN
  replace ha := ha.keep bN
  replace ht := ht.keep bN
  replace hs := hs.keep bN
  replace B1 := below_trans B1 bN
  clear bN
  go_wp2_with fail
  refine (InsertR_any _ _ _ xs t s _ hT ha ht hs (HX.out.mono (by decide)) (Nat.le_trans H3.out (by decide)) (Nat.le_trans H4.out (by decide))).mono ?_
  rintro e w3 ⟨ui, rfl, ns, Ri, On, bN⟩
  replace Ri := Ri.rel
  have HI := Lib.hid On
  have HIS := Lib.hid ((On.sml _ 1 HX.out (Sml.one (Nat.le_trans H3.out (by decide)) (Nat.le_trans H4.out (by decide)) (Nat.le_refl _))).mono (m := 10000) (by decide))
  clear On
  replace hT := hT.keep bN
  replace ha := ha.keep bN
  replace ht := ht.keep bN
  replace hs := hs.keep bN
  replace ho := ho.keep bN
  replace B1 := below_trans B1 bN
  clear bN
  go_wp2_with fail
  refine (RemoveR_any _ _ _ xs t s _ hT ha ht hs (HX.out.mono (by decide)) (Nat.le_trans H3.out (by decide)) (Nat.le_trans H4.out (by decide))).mono ?_
  rintro e w4 ⟨ur, rfl, rs, Rr, Or, bN⟩
  replace Rr := Rr.rel
  have HR := Lib.hid Or
  have HRS := Lib.hid ((Or.sml _ 1 HX.out (Sml.one (Nat.le_trans H3.out (by decide)) (Nat.le_trans H4.out (by decide)) (Nat.le_refl _))).mono (m := 10000) (by decide))
  clear Or
  replace hT := hT.keep bN
  replace ha := ha.keep bN
  replace ht := ht.keep bN
  replace hs := hs.keep bN
  replace ho := ho.keep bN
  replace Ri := Ri.keep bN
  replace B1 := below_trans B1 bN
  clear bN
  go_wp2_with fail
  refine (UnionR_any _ _ xs _ _ hT ha ho (HX.out.mono (by decide)) ⟨by simp, by simp; exact ⟨Nat.le_trans H3.out (by decide), Nat.le_trans H4.out (by decide)⟩⟩).mono ?_
  rintro e w5 ⟨uu, rfl, us, Ru, Ou, bN⟩
  replace Ru := Ru.rel
  have HE := Lib.hid (one_insert HI.out (Ou.congr rfl))
  clear Ou
  replace hT := hT.keep bN
  replace ha := ha.keep bN
  replace ht := ht.keep bN
  replace hs := hs.keep bN
  replace ho := ho.keep bN
  replace Ri := Ri.keep bN
  replace Rr := Rr.keep bN
  replace B1 := below_trans B1 bN
  clear bN
  go_wp2_with fail
  refine (rSameR_any _ _ ns us _ Ri Ru).mono ?_
  rintro e w6 ⟨rfl, bN⟩
  rw [decide_eq_true HE.out]
  replace hT := hT.keep bN
  replace ha := ha.keep bN
  replace ht := ht.keep bN
  replace hs := hs.keep bN
  replace ho := ho.keep bN
  replace Ri := Ri.keep bN
  replace Rr := Rr.keep bN
  replace B1 := below_trans B1 bN
  clear bN
  clear Ru HE
  go_wp2_with fail
  refine (MinusR_any _ _ xs _ _ hT ha ho (HX.out.mono (by decide)) ⟨by simp, by simp; exact ⟨Nat.le_trans H3.out (by decide), Nat.le_trans H4.out (by decide)⟩⟩).mono ?_
  rintro e w7 ⟨um, rfl, ms, Rm, Om, bN⟩
  replace Rm := Rm.rel
  have HE := Lib.hid (one_remove HR.out (Om.congr rfl))
  clear Om
  replace hT := hT.keep bN
  replace ha := ha.keep bN
  replace ht := ht.keep bN
  replace hs := hs.keep bN
  replace Ri := Ri.keep bN
  replace Rr := Rr.keep bN
  replace B1 := below_trans B1 bN
  clear bN
  clear ho
  go_wp2_with fail
  refine (rSameR_any _ _ rs ms _ Rr Rm).mono ?_
  rintro e w8 ⟨rfl, bN⟩
  rw [decide_eq_true HE.out]
  replace hT := hT.keep bN
  replace ha := ha.keep bN
  replace ht := ht.keep bN
  replace hs := hs.keep bN
  replace Ri := Ri.keep bN
  replace Rr := Rr.keep bN
  replace B1 := below_trans B1 bN
  clear bN
  clear Rm HE
  go_wp2
  go_loopg [11] xs.length (fun g vi wr => ∃ i : Nat, vi = .int .i64 i ∧ i ≤ xs.length ∧ xs.length - i ≤ g ∧ Below w8.heap.size w8 wr)
  case atStart => exact ⟨0, rfl, Nat.zero_le _, Nat.le_refl _, Below.refl _ _⟩
  case round =>
    obtain ⟨i, rfl, hi, hg, bR⟩ := hrel
    replace hT := hT.keep bR
    replace ha := ha.keep bR
    replace ht := ht.keep bR
    replace hs := hs.keep bR
    replace Ri := Ri.keep bR
    replace Rr := Rr.keep bR
    by_cases hlt : i < xs.length
    · have hltz : (i : Int) < (xs.length : Int) := by omega
      obtain ⟨x, hx⟩ := getElem_of_lt hlt
      obtain ⟨b1, o1, e, c0, c1, rx⟩ := ha.at_ hx
      cases e
      clear hx c1
      have rx := rx.1
      go_wp2_with fail
      refine (rCompareTuple_any _ _ x.t t _ rx ht).mono ?_
      rintro e wc ⟨rfl, hgw⟩
      have bN := hgw.below
      replace hT := hT.keep bN
      replace ha := ha.keep bN
      replace ht := ht.keep bN
      replace hs := hs.keep bN
      replace Ri := Ri.keep bN
      replace Rr := Rr.keep bN
      replace rx := rx.keep bN
      replace bR := below_trans bR bN
      clear bN
      clear hgw
      obtain ⟨z, hz⟩ : ∃ z, cmpT x.t t = z := ⟨_, rfl⟩
      rw [hz]
      by_cases h0 : z = 0
      · subst h0
        clear hz
        go_wp2
        go_roundg (xs.length - (i + 1))
        case measure => omega
        case rel => exact ⟨i + 1, by go_num, hlt, Nat.le_refl _, bR⟩
      · have HN := Lib.hid (show t ≠ x.t from fun e => h0 (by rw [← hz, e]; exact (cmpT_is.eq _ _).2 rfl))
        clear hz
        go_wp2_with fail
        refine (WhenR_any _ _ ns x.t _ hT Ri rx HIS.out).mono ?_
        rintro e wd ⟨ud, rfl, Sd, bN⟩
        replace Sd := Sd.1
        replace hT := hT.keep bN
        replace ha := ha.keep bN
        replace ht := ht.keep bN
        replace hs := hs.keep bN
        replace Ri := Ri.keep bN
        replace Rr := Rr.keep bN
        replace rx := rx.keep bN
        replace bR := below_trans bR bN
        clear bN
        go_wp2_with fail
        refine (WhenR_any _ _ xs x.t _ hT ha rx (HX.out.mono (by decide))).mono ?_
        rintro e we ⟨ue, rfl, Se, bN⟩
        replace Se := Se.1
        replace hT := hT.keep bN
        replace ha := ha.keep bN
        replace ht := ht.keep bN
        replace hs := hs.keep bN
        replace Ri := Ri.keep bN
        replace Rr := Rr.keep bN
        replace rx := rx.keep bN
        replace Sd := Sd.keep bN
        replace bR := below_trans bR bN
        clear bN
        go_wp2_with fail
        refine (Same_any _ _ _ _ _ Sd Se).mono ?_
        rintro e wf ⟨rfl, bN⟩
        rw [decide_eq_true (one_when_insert HI.out HN.out)]
        replace hT := hT.keep bN
        replace ha := ha.keep bN
        replace ht := ht.keep bN
        replace hs := hs.keep bN
        replace Ri := Ri.keep bN
        replace Rr := Rr.keep bN
        replace rx := rx.keep bN
        replace bR := below_trans bR bN
        clear bN
        clear Sd Se
        go_wp2_with fail
        refine (WhenR_any _ _ rs x.t _ hT Rr rx HRS.out).mono ?_
        rintro e wg ⟨ug, rfl, Sd, bN⟩
        replace Sd := Sd.1
        replace hT := hT.keep bN
        replace ha := ha.keep bN
        replace ht := ht.keep bN
        replace hs := hs.keep bN
        replace Ri := Ri.keep bN
        replace Rr := Rr.keep bN
        replace rx := rx.keep bN
        replace bR := below_trans bR bN
        clear bN
        go_wp2_with fail
        refine (WhenR_any _ _ xs x.t _ hT ha rx (HX.out.mono (by decide))).mono ?_
        rintro e wh ⟨uh, rfl, Se, bN⟩
        replace Se := Se.1
        replace hT := hT.keep bN
        replace ha := ha.keep bN
        replace ht := ht.keep bN
        replace hs := hs.keep bN
        replace Ri := Ri.keep bN
        replace Rr := Rr.keep bN
        replace rx := rx.keep bN
        replace Sd := Sd.keep bN
        replace bR := below_trans bR bN
        clear bN
        go_wp2_with fail
        refine (Same_any _ _ _ _ _ Sd Se).mono ?_
        rintro e wi ⟨rfl, bN⟩
        rw [decide_eq_true (one_when_remove HR.out HN.out)]
        replace hT := hT.keep bN
        replace ha := ha.keep bN
        replace ht := ht.keep bN
        replace hs := hs.keep bN
        replace Ri := Ri.keep bN
        replace Rr := Rr.keep bN
        replace rx := rx.keep bN
        replace bR := below_trans bR bN
        clear bN
        clear Sd Se
        go_wp2
        go_roundg (xs.length - (i + 1))
        case measure => omega
        case rel => exact ⟨i + 1, by go_num, hlt, Nat.le_refl _, bR⟩
    · have hltz : ¬ (i : Int) < (xs.length : Int) := by omega
      go_wp2_with fail
      refine (WhenR_any _ _ xs t _ hT ha ht (HX.out.mono (by decide))).mono ?_
      rintro e wd ⟨ud, rfl, Sd, bN⟩
      replace Sd := Sd.1
      replace hT := hT.keep bN
      replace ha := ha.keep bN
      replace ht := ht.keep bN
      replace hs := hs.keep bN
      replace Ri := Ri.keep bN
      replace Rr := Rr.keep bN
      replace bR := below_trans bR bN
      clear bN
      go_wp2_with fail
      refine (Minus_any _ _ s _ _ hT hs Sd).mono ?_
      rintro e we ⟨ue, rfl, Sf, bN⟩
      replace Sf := Sf.1
      replace hT := hT.keep bN
      replace ha := ha.keep bN
      replace ht := ht.keep bN
      replace hs := hs.keep bN
      replace Ri := Ri.keep bN
      replace Rr := Rr.keep bN
      replace bR := below_trans bR bN
      clear bN
      clear Sd
      go_wp2_with fail
      refine (RemoveR_any _ _ _ ns t _ _ hT Ri ht Sf HIS.out (Nat.le_trans H3.out (by decide)) (fresh_short _)).mono ?_
      rintro e wf ⟨uf, rfl, zs, Rz, Oz, bN⟩
      replace Rz := Rz.rel
      have HZ := Lib.hid Oz
      clear Oz
      replace hT := hT.keep bN
      replace ha := ha.keep bN
      replace ht := ht.keep bN
      replace hs := hs.keep bN
      replace Ri := Ri.keep bN
      replace Rr := Rr.keep bN
      replace bR := below_trans bR bN
      clear bN
      clear Sf
      go_wp2_with fail
      refine (UnionR_any _ _ xs [] _ hT ha (IsRel.nil _) (HX.out.mono (by decide)) (Sml.nil _)).mono ?_
      rintro e wg ⟨ug, rfl, vs, Rv, Ov, bN⟩
      replace Rv := Rv.rel
      have HE := Lib.hid (one_back HI.out HZ.out Ov)
      clear Ov HZ
      replace hT := hT.keep bN
      replace ha := ha.keep bN
      replace ht := ht.keep bN
      replace hs := hs.keep bN
      replace Ri := Ri.keep bN
      replace Rr := Rr.keep bN
      replace Rz := Rz.keep bN
      replace bR := below_trans bR bN
      clear bN
      go_wp2_with fail
      refine (rSameR_any _ _ zs vs _ Rz Rv).mono ?_
      rintro e wh ⟨rfl, bN⟩
      rw [decide_eq_true HE.out]
      replace hT := hT.keep bN
      replace ha := ha.keep bN
      replace ht := ht.keep bN
      replace hs := hs.keep bN
      replace Ri := Ri.keep bN
      replace Rr := Rr.keep bN
      replace bR := below_trans bR bN
      clear bN
      clear Rz Rv HE
      go_wp2_with fail
      refine (WhenR_any _ _ ns t _ hT Ri ht HIS.out).mono ?_
      rintro e wi ⟨ui2, rfl, Sd, bN⟩
      replace Sd := Sd.1
      replace hT := hT.keep bN
      replace ha := ha.keep bN
      replace ht := ht.keep bN
      replace hs := hs.keep bN
      replace Ri := Ri.keep bN
      replace Rr := Rr.keep bN
      replace bR := below_trans bR bN
      clear bN
      go_wp2_with fail
      refine (WhenR_any _ _ xs t _ hT ha ht (HX.out.mono (by decide))).mono ?_
      rintro e wj ⟨uj, rfl, Se, bN⟩
      replace Se := Se.1
      replace hT := hT.keep bN
      replace ha := ha.keep bN
      replace ht := ht.keep bN
      replace hs := hs.keep bN
      replace Ri := Ri.keep bN
      replace Rr := Rr.keep bN
      replace Sd := Sd.keep bN
      replace bR := below_trans bR bN
      clear bN
      go_wp2_with fail
      refine (Union_any _ _ _ s _ hT Se hs).mono ?_
      rintro e wk ⟨uk, rfl, Sf, bN⟩
      replace Sf := Sf.1
      replace hT := hT.keep bN
      replace ha := ha.keep bN
      replace ht := ht.keep bN
      replace hs := hs.keep bN
      replace Ri := Ri.keep bN
      replace Rr := Rr.keep bN
      replace Sd := Sd.keep bN
      replace bR := below_trans bR bN
      clear bN
      clear Se
      go_wp2_with fail
      refine (Same_any _ _ _ _ _ Sd Sf).mono ?_
      rintro e wl ⟨rfl, bN⟩
      rw [decide_eq_true (one_when HI.out)]
      replace hT := hT.keep bN
      replace ha := ha.keep bN
      replace ht := ht.keep bN
      replace hs := hs.keep bN
      replace Ri := Ri.keep bN
      replace Rr := Rr.keep bN
      replace bR := below_trans bR bN
      clear bN
      clear Sd Sf
      go_wp2
      go_ret
      exact ⟨rfl, below_trans B1 bR⟩
end Go.Proofs.YtdibijhaiaiifaaDoor
/- Plain laws of the law RelationCanonical. -/
namespace Go.Proofs.YtdibijhaiaiifaaDoor
section
variable {xs ys cs es fs os : List RR} {op : Bool → Bool → Bool}
/-- Rows that say nothing new about xs. -/
def Echo (xs L : List RR) : Prop := ∀ y ∈ L, ∃ x ∈ xs, y.t = x.t ∧ (y.s = x.s ∨ y.s = [])
theorem Echo.nil (xs : List RR) : Echo xs [] := by intro y hy; cases hy
theorem Echo.two {L : List RR} (h : Echo xs L) {x p q : RR} (hx : x ∈ xs) (hp : p.t = x.t ∧ (p.s = x.s ∨ p.s = [])) (hq : q.t = x.t ∧ (q.s = x.s ∨ q.s = [])) : Echo xs (L ++ [p, q]) := by
  intro y hy
  rcases List.mem_append.1 hy with hy | hy
  · exact h y hy
  · rcases List.mem_cons.1 hy with rfl | hy
    · exact ⟨x, hx, hp⟩
    · rw [List.mem_singleton.1 hy]; exact ⟨x, hx, hq⟩
theorem Echo.moms {L : List RR} (h : Echo xs L) (t : Tp) (k : Nat) : mom (rows (L ++ xs)) t k = mom (rows xs) t k := by
  rw [rows_append, mom_append]
  cases e : mom (rows L) t k with
  | false => rfl
  | true =>
    unfold mom at e
    rw [List.any_eq_true] at e
    obtain ⟨q, hq, e⟩ := e
    obtain ⟨y, hy, rfl⟩ := mem_rows.1 hq
    rw [Bool.and_eq_true, decide_eq_true_eq] at e
    obtain ⟨x, hx, ht, hs⟩ := h y hy
    have e1 : y.t = t := e.1
    have e2 : setOf y.s k = true := e.2
    rcases hs with hs | hs
    · have : mom (rows xs) t k = true := by
        unfold mom
        rw [List.any_eq_true]
        refine ⟨x.rw, mem_rows.2 ⟨x, hx, rfl⟩, ?_⟩
        rw [Bool.and_eq_true, decide_eq_true_eq]
        exact ⟨ht.symm.trans e1, by rw [← e2, hs]; rfl⟩
      rw [this]; rfl
    · rw [hs, setOf_nil] at e2; cases e2
theorem Echo.sml {L : List RR} (h : Echo xs L) (hl : L.length ≤ 2 * xs.length) {n : Nat} (hs : Sml n xs) : Sml (3 * n) (L ++ xs) := by
  refine ⟨by have := hs.len; rw [List.length_append]; omega, fun y hy => ?_⟩
  rcases List.mem_append.1 hy with hy | hy
  · obtain ⟨x, hx, ht, he⟩ := h y hy
    refine ⟨by rw [ht]; exact (hs.each x hx).1, ?_⟩
    rcases he with he | he
    · rw [he]; exact (hs.each x hx).2
    · rw [he]; simp
  · exact hs.each y hy
theorem op_left (h : ∀ t k, mom (rows cs) t k = mom (rows xs) t k) (he : OpOf op cs ys es) (hf : OpOf op xs ys fs) : rows es = rows fs := same_of he.can hf.can fun t k hk => by rw [he.mom t k hk, hf.mom t k hk, h]
theorem op_right (h : ∀ t k, mom (rows cs) t k = mom (rows xs) t k) (he : OpOf op ys cs es) (hf : OpOf op ys xs fs) : rows es = rows fs := same_of he.can hf.can fun t k hk => by rw [he.mom t k hk, hf.mom t k hk, h]
theorem mom_filter (P : Tp → Bool) (l : List RR) (t : Tp) (k : Nat) : mom (rows (l.filter fun x => P x.t)) t k = (P t && mom (rows l) t k) := by
  induction l with
  | nil => show false = _; cases P t <;> rfl
  | cons x l ih =>
    rw [List.filter_cons, rows_cons, mom_cons]
    by_cases h : x.t = t
    · cases hp : P x.t
      · rw [if_neg (by simp), ih]
        rw [h] at hp
        rw [hp]; rfl
      · rw [if_pos (by simp), rows_cons, mom_cons, ih]
        rw [h] at hp
        rw [hp]; rfl
    · have hd : decide (x.rw.1 = t) = false := decide_eq_false h
      split
      · rw [rows_cons, mom_cons, ih, hd]; rfl
      · rw [ih, hd]; rfl
theorem sel_of (h : ∀ t k, mom (rows cs) t k = mom (rows xs) t k) {P : Tp → Bool} (he : CanOf (cs.filter fun x => P x.t) es) (hf : CanOf (xs.filter fun x => P x.t) fs) : rows es = rows fs := same_of he.can hf.can fun t k hk => by rw [he.mom t k hk, hf.mom t k hk, mom_filter, mom_filter, h]
theorem can_iff (ho : OpOf opU xs [] os) {b : Bool} (hb : b = true ↔ IsCan (rows xs)) : b = decide (rows xs = rows os) := by
  have h : IsCan (rows xs) ↔ rows xs = rows os := by
    constructor
    · intro h
      refine same_of h ho.can fun t k hk => ?_
      rw [ho.mom t k hk]
      show _ = (_ || mom [] t k)
      rw [mom_nil, Bool.or_false]
    · intro h; rw [h]; exact ho.can
  rw [Bool.eq_iff_iff, hb, decide_eq_true_iff]; exact h
end
end Go.Proofs.YtdibijhaiaiifaaDoor
/- Plain laws of the law RelationMoments. -/
namespace Go.Proofs.YtdibijhaiaiifaaDoor
section
variable {xs ys zs : List RR} {a b l m : List Tp} {k : Nat}
/-- Tuples that grow. -/
def UpT : List Tp → Prop
  | [] => True
  | x :: r => (∀ y ∈ r, cmpT x y < 0) ∧ UpT r
theorem UpT.filter {P : Tp → Bool} : ∀ {a : List Tp}, UpT a → UpT (a.filter P)
  | [], _ => trivial
  | x :: a, h => by
    rw [List.filter_cons]
    split
    · exact ⟨fun y hy => h.1 y (List.mem_filter.1 hy).1, UpT.filter h.2⟩
    · exact UpT.filter h.2
theorem upT_map : ∀ {l : List RR}, Up (rows l) → UpT (l.map (·.t))
  | [], _ => trivial
  | x :: l, h => ⟨fun y hy => by
      obtain ⟨z, hz, rfl⟩ := List.mem_map.1 hy
      exact up_head h z hz, upT_map h.2⟩
theorem up_filter {P : RR → Bool} : ∀ {l : List RR}, Up (rows l) → Up (rows (l.filter P))
  | [], _ => trivial
  | x :: l, h => by
    rw [List.filter_cons]
    split
    · exact ⟨fun y hy => by
        obtain ⟨z, hz, rfl⟩ := mem_rows.1 hy
        exact up_head h z (List.mem_filter.1 hz).1, up_filter h.2⟩
    · exact up_filter h.2
theorem upT_ext : ∀ {a b : List Tp}, UpT a → UpT b → (∀ t, t ∈ a ↔ t ∈ b) → a = b
  | [], [], _, _, _ => rfl
  | [], y :: b, _, _, h => absurd ((h y).2 (by simp)) (by simp)
  | x :: a, [], _, _, h => absurd ((h x).1 (by simp)) (by simp)
  | x :: a, y :: b, ha, hb, h => by
    have hxy : x = y := by
      rcases List.mem_cons.1 ((h x).1 (by simp)) with e | hx
      · exact e
      · rcases List.mem_cons.1 ((h y).2 (by simp)) with e | hy
        · exact e.symm
        · have h1 := ha.1 y hy
          have h2 := hb.1 x hx
          have := cmpT_is.anti x y
          omega
    subst hxy
    have hn : ∀ {c : List Tp}, (∀ y ∈ c, cmpT x y < 0) → x ∉ c := fun hc hx => by
      have := hc x hx
      rw [cmpT_is.refl] at this; omega
    rw [upT_ext ha.2 hb.2 fun t => ?_]
    have := h t
    simp only [List.mem_cons] at this
    constructor
    · intro ht
      rcases this.1 (.inr ht) with e | h1
      · subst e; exact absurd ht (hn ha.1)
      · exact h1
    · intro ht
      rcases this.2 (.inr ht) with e | h1
      · subst e; exact absurd ht (hn hb.1)
      · exact h1
theorem inSet_nat (s : List Sp) (hk : k < 64) : inSet s (k : Int) = setOf s k := by
  unfold inSet
  rw [decide_eq_true (by omega : (0 : Int) ≤ (k : Int)), decide_eq_true (by omega : (k : Int) < 64)]
  rfl
theorem at_mem (hk : k < 64) (h : AtOf xs (k : Int) l) (t : Tp) : t ∈ l ↔ mom (rows xs) t k = true := by
  obtain ⟨zs, hz, rfl⟩ := h
  rw [← hz.mom t k hk, List.mem_map]
  unfold mom
  rw [List.any_eq_true]
  constructor
  · rintro ⟨z, hz, rfl⟩
    obtain ⟨h1, h2⟩ := List.mem_filter.1 hz
    refine ⟨z.rw, mem_rows.2 ⟨z, h1, rfl⟩, ?_⟩
    rw [inSet_nat _ hk] at h2
    rw [Bool.and_eq_true, decide_eq_true_eq]
    exact ⟨rfl, h2⟩
  · rintro ⟨y, hy, e⟩
    obtain ⟨z, h1, rfl⟩ := mem_rows.1 hy
    rw [Bool.and_eq_true, decide_eq_true_eq] at e
    exact ⟨z, List.mem_filter.2 ⟨h1, by rw [inSet_nat _ hk]; exact e.2⟩, e.1⟩
theorem at_up {m : Int} (h : AtOf xs m l) : UpT l := by
  obtain ⟨zs, hz, rfl⟩ := h
  exact upT_map (up_filter hz.can.1)
/-- The tuples of a list that are in another one, or not in it. -/
def keptL (a b : List Tp) (want : Bool) : List Tp := a.filter fun t => decide (decide (t ∈ b) = want)
theorem kept_mem {want : Bool} (t : Tp) : t ∈ keptL a b want ↔ t ∈ a ∧ decide (t ∈ b) = want := by
  unfold keptL
  rw [List.mem_filter, decide_eq_true_eq]
theorem mem_iff_dec {c : List Tp} {t : Tp} {v : Bool} (h : t ∈ c ↔ v = true) : decide (t ∈ c) = v := by rw [Bool.eq_iff_iff, decide_eq_true_iff]; exact h
theorem at_meet (hk : k < 64) (ho : OpOf opM xs ys zs) (ha : AtOf xs (k : Int) a) (hb : AtOf ys (k : Int) b) (hl : AtOf zs (k : Int) l) : l = keptL a b true := by
  refine upT_ext (at_up hl) (UpT.filter (at_up ha)) fun t => ?_
  rw [kept_mem, at_mem hk hl, ho.mom t k hk, at_mem hk ha, decide_eq_true_iff, at_mem hk hb]
  unfold opM
  rw [Bool.and_eq_true]
theorem at_minus (hk : k < 64) (ho : OpOf opD xs ys zs) (ha : AtOf xs (k : Int) a) (hb : AtOf ys (k : Int) b) (hl : AtOf zs (k : Int) l) : l = keptL a b false := by
  refine upT_ext (at_up hl) (UpT.filter (at_up ha)) fun t => ?_
  rw [kept_mem, at_mem hk hl, ho.mom t k hk, at_mem hk ha, mem_iff_dec (at_mem hk hb t)]
  unfold opD
  cases mom (rows xs) t k <;> cases mom (rows ys) t k <;> simp
theorem kept_none {want : Bool} (h : ∀ t, t ∈ a → decide (t ∈ b) = !want) : keptL a b want = [] := by
  unfold keptL
  rw [List.filter_eq_nil_iff]
  intro t ht
  rw [h t ht]
  cases want <;> simp
theorem at_left (hk : k < 64) (ho : OpOf opU xs ys zs) (ha : AtOf xs (k : Int) a) (hl : AtOf zs (k : Int) l) : keptL a l false = [] := kept_none fun t ht => by
  rw [mem_iff_dec (at_mem hk hl t), ho.mom t k hk, (at_mem hk ha t).1 ht]; rfl
theorem at_right (hk : k < 64) (ho : OpOf opU xs ys zs) (hb : AtOf ys (k : Int) b) (hl : AtOf zs (k : Int) l) : keptL b l false = [] := kept_none fun t ht => by
  rw [mem_iff_dec (at_mem hk hl t), ho.mom t k hk, (at_mem hk hb t).1 ht]; exact Bool.or_true _
theorem at_rest (hk : k < 64) (ho : OpOf opU xs ys zs) (ha : AtOf xs (k : Int) a) (hb : AtOf ys (k : Int) b) (hl : AtOf zs (k : Int) l) : keptL (keptL l a false) b false = [] := kept_none fun t ht => by
  rw [kept_mem, mem_iff_dec (at_mem hk ha t), at_mem hk hl, ho.mom t k hk] at ht
  rw [mem_iff_dec (at_mem hk hb t)]
  obtain ⟨h1, h2⟩ := ht
  unfold opU at h1
  rw [h2] at h1
  exact h1
theorem at_select (hk : k < 64) {P : Tp → Bool} (hs : CanOf (xs.filter fun x => P x.t) zs) (ha : AtOf xs (k : Int) a) (hl : AtOf zs (k : Int) l) : l = a.filter P := by
  refine upT_ext (at_up hl) (UpT.filter (at_up ha)) fun t => ?_
  rw [at_mem hk hl, hs.mom t k hk, mom_filter, List.mem_filter, at_mem hk ha, Bool.and_eq_true]
  exact And.comm
/-- What was gathered of a relation before a moment. -/
def Sofar (xs all : List RR) (k : Nat) : Prop := (∀ t j, j < 64 → mom (rows all) t j = (decide (j < k) && mom (rows xs) t j)) ∧ ∀ y ∈ all, y.t.length ≤ 64 ∧ y.s.length ≤ 64
theorem Sofar.start (xs : List RR) : Sofar xs [] 0 := ⟨fun t j _ => by rw [decide_eq_false (by omega)]; rfl, by intro y hy; cases hy⟩
/-- .. and of the tuples at the moment itself, so far. -/
def SofarI (xs all : List RR) (k : Nat) (a : List Tp) : Prop := (∀ t j, j < 64 → mom (rows all) t j = ((decide (j < k) && mom (rows xs) t j) || (decide (j = k) && decide (t ∈ a)))) ∧ ∀ y ∈ all, y.t.length ≤ 64 ∧ y.s.length ≤ 64
theorem Sofar.inner {all : List RR} (h : Sofar xs all k) : SofarI xs all k [] := ⟨fun t j hj => by rw [h.1 t j hj]; simp, h.2⟩
theorem setOf_one (k j : Nat) : setOf [((k : Int), (k : Int) + 1)] j = decide (j = k) := by
  unfold setOf has
  rw [List.any_cons, List.any_nil, Bool.or_false, Bool.eq_iff_iff, Bool.and_eq_true, decide_eq_true_eq, decide_eq_true_eq, decide_eq_true_eq]
  omega
theorem SofarI.step {all : List RR} (h : SofarI xs all k a) {y : RR} (hs : y.s = [((k : Int), (k : Int) + 1)]) (ht : y.t.length ≤ 64) : SofarI xs (all ++ [y]) k (a ++ [y.t]) := by
  refine ⟨fun t j hj => ?_, fun z hz => ?_⟩
  · rw [rows_append, mom_append, h.1 t j hj, mom_one, hs, setOf_one]
    rw [Bool.eq_iff_iff]
    simp only [Bool.or_eq_true, Bool.and_eq_true, decide_eq_true_eq, List.mem_append, List.mem_singleton]
    constructor
    · rintro ((h | h) | h)
      · exact .inl h
      · exact .inr ⟨h.1, .inl h.2⟩
      · exact .inr ⟨h.2, .inr h.1.symm⟩
    · rintro (h | ⟨h, h2 | h2⟩)
      · exact .inl (.inl h)
      · exact .inl (.inr ⟨h, h2⟩)
      · exact .inr ⟨h2.symm, h⟩
  · rcases List.mem_append.1 hz with hz | hz
    · exact h.2 z hz
    · rw [List.mem_singleton.1 hz]; exact ⟨ht, by rw [hs]; simp⟩
theorem SofarI.done {all : List RR} (h : SofarI xs all k a) (hk : k < 64) (ha : AtOf xs (k : Int) a) : Sofar xs all (k + 1) := by
  refine ⟨fun t j hj => ?_, h.2⟩
  rw [h.1 t j hj]
  by_cases e : j = k
  · subst e
    rw [mem_iff_dec (at_mem hk ha t)]
    simp
  · rw [decide_eq_false e, Bool.false_and, Bool.or_false]
    congr 1
    rw [Bool.eq_iff_iff, decide_eq_true_iff, decide_eq_true_iff]; omega
theorem sofar_same {all es fs : List RR} (h : Sofar xs all 64) (he : OpOf opU all [] es) (hf : OpOf opU xs [] fs) : rows es = rows fs := same_of he.can hf.can fun t k hk => by
  rw [he.mom t k hk, hf.mom t k hk, h.1 t k hk, decide_eq_true hk]; rfl
end
end Go.Proofs.YtdibijhaiaiifaaDoor
/- Plain laws of the law RelationSelection. -/
namespace Go.Proofs.YtdibijhaiaiifaaDoor
section
variable {xs ys zs ws es fs us : List RR} {op : Bool → Bool → Bool} {P : Tp → Bool}
theorem sel_op (h : ∀ p x y, (p && op x y) = op (p && x) (p && y)) (hu : OpOf op xs ys us) (he : CanOf (us.filter fun x => P x.t) es) (hx : CanOf (xs.filter fun x => P x.t) zs) (hy : CanOf (ys.filter fun x => P x.t) ws) (hf : OpOf op zs ws fs) : rows es = rows fs := same_of he.can hf.can fun t k hk => by
  rw [he.mom t k hk, mom_filter, hu.mom t k hk, hf.mom t k hk, hx.mom t k hk, hy.mom t k hk, mom_filter, mom_filter, h]
theorem dist_U (p x y : Bool) : (p && opU x y) = opU (p && x) (p && y) := by cases p <;> cases x <;> cases y <;> rfl
theorem dist_M (p x y : Bool) : (p && opM x y) = opM (p && x) (p && y) := by cases p <;> cases x <;> cases y <;> rfl
theorem dist_D (p x y : Bool) : (p && opD x y) = opD (p && x) (p && y) := by cases p <;> cases x <;> cases y <;> rfl
theorem sel_again (hx : CanOf (xs.filter fun x => P x.t) zs) (he : CanOf (zs.filter fun x => P x.t) es) : rows es = rows zs := same_of he.can hx.can fun t k hk => by
  rw [he.mom t k hk, mom_filter, hx.mom t k hk, mom_filter]
  cases P t <;> rfl
/-- Terms that are different variables. -/
def Free (ms : List Tm) : Prop := ∀ (i : Nat) (m : Tm), ms[i]? = some m → m.v ≠ [] ∧ ∀ (j : Nat) (m' : Tm), ms[j]? = some m' → m'.v = m.v → j = i
theorem first_free {m0 : List Tm} {ms : List Tm} (hf : Free ms) (h0 : ∀ m ∈ m0, m.v = []) {i : Nat} {m : Tm} (h : ms[i]? = some m) : firstOf (m0 ++ ms) m.v = m0.length + i := by
  have hi : (m0 ++ ms)[m0.length + i]? = some m := by rw [List.getElem?_append_right (by omega), show m0.length + i - m0.length = i by omega]; exact h
  have hle := firstOf_le hi
  have hlt : firstOf (m0 ++ ms) m.v < (m0 ++ ms).length := Nat.lt_of_le_of_lt hle (List.getElem?_eq_some_iff.1 hi).1
  have hp := List.findIdx_getElem (p := fun u : Tm => decide (u.v = m.v)) (xs := m0 ++ ms) (w := hlt)
  rw [decide_eq_true_eq] at hp
  obtain ⟨f, hfd⟩ : ∃ f, firstOf (m0 ++ ms) m.v = f := ⟨_, rfl⟩
  have hfd' : List.findIdx (fun u : Tm => decide (u.v = m.v)) (m0 ++ ms) = f := hfd
  rw [hfd] at hle hlt ⊢
  have hq : ∃ q, (m0 ++ ms)[f]? = some q ∧ q.v = m.v := ⟨(m0 ++ ms)[f], List.getElem?_eq_getElem hlt, by
    simp only [hfd'] at hp
    exact hp⟩
  obtain ⟨q, hq1, hq2⟩ := hq
  by_cases hc : f < m0.length
  · rw [List.getElem?_append_left hc] at hq1
    have := h0 q (List.mem_of_getElem? hq1)
    rw [this] at hq2
    exact absurd hq2.symm (hf i m h).1
  · rw [List.getElem?_append_right (by omega)] at hq1
    have := (hf i m h).2 _ q hq1 hq2
    omega
theorem match_free {ms : List Tm} (hf : Free ms) (t : Tp) : matchL ms t = decide (t.length = ms.length) := by
  by_cases hl : t.length = ms.length
  · rw [decide_eq_true hl]
    refine match_all hl fun j hj => ?_
    obtain ⟨m, hm⟩ : ∃ m, ms[j]? = some m := ⟨_, List.getElem?_eq_getElem hj⟩
    obtain ⟨y, hy⟩ : ∃ y, t[j]? = some y := ⟨_, List.getElem?_eq_getElem (by omega)⟩
    have hfi := first_free (m0 := []) hf (by simp) hm
    simp only [List.nil_append, List.length_nil, Nat.zero_add] at hfi
    rw [okAt_var hm hy (hf j m hm).1 (by rw [hfi]; exact hy)]
    exact decide_eq_true rfl
  · unfold matchL
    rw [decide_eq_false hl, Bool.false_and]
/-- A tuple's first value. -/
def fst? (t : Tp) : Option Vl := t[0]?
theorem match_part {c : Tm} {ms : List Tm} (hf : Free ms) (hc : c.v = []) (t : Tp) : matchL (c :: ms) t = (decide (t.length = ms.length + 1) && decide (fst? t = some c.c)) := by
  by_cases hl : t.length = ms.length + 1
  · rw [decide_eq_true hl, Bool.true_and]
    obtain ⟨y0, hy0⟩ : ∃ y, t[0]? = some y := ⟨_, List.getElem?_eq_getElem (by omega)⟩
    have h0 : okAt (c :: ms) t 0 = decide (fst? t = some c.c) := by
      rw [okAt_const (m := c) rfl hy0 hc, Bool.eq_iff_iff, decide_eq_true_iff, decide_eq_true_iff]
      unfold fst?
      rw [hy0]; simp
    cases h : decide (fst? t = some c.c) with
    | false => exact match_not (i := 0) (by simp) (by rw [h0, h])
    | true =>
      refine match_all (by rw [hl]; rfl) fun j hj => ?_
      rcases j with _ | j
      · rw [h0, h]
      · have hj' : j < ms.length := by simpa using hj
        obtain ⟨m, hm⟩ : ∃ m, ms[j]? = some m := ⟨_, List.getElem?_eq_getElem hj'⟩
        obtain ⟨y, hy⟩ : ∃ y, t[j + 1]? = some y := ⟨_, List.getElem?_eq_getElem (by omega)⟩
        have hfi := first_free (m0 := [c]) hf (by simp [hc]) hm
        rw [okAt_var (m := m) (by simpa using hm) hy (hf j m hm).1 (by
          have e : firstOf (c :: ms) m.v = 1 + j := hfi
          rw [e, Nat.add_comm]; exact hy)]
        exact decide_eq_true rfl
  · rw [decide_eq_false hl, Bool.false_and]
    unfold matchL
    rw [decide_eq_false (by simpa using hl), Bool.false_and]
/-- The names of the variables. -/
def nameA (i : Nat) : List UInt8 := [UInt8.ofNat (65 + i)]
def freeL (n : Nat) : List (List UInt8) := (List.range n).map nameA
theorem free_of {ms : List Tm} (h : ms.map (·.v) = freeL ms.length) (hn : ms.length ≤ 6) : Free ms := by
  have key : ∀ i m, ms[i]? = some m → m.v = nameA i ∧ i < 6 := fun i m hm => by
    have hl := (List.getElem?_eq_some_iff.1 hm).1
    have h2 : (ms.map (·.v))[i]? = some m.v := by rw [List.getElem?_map, hm]; rfl
    rw [h] at h2
    unfold freeL at h2
    rw [List.getElem?_map, List.getElem?_range hl] at h2
    exact ⟨(Option.some.inj h2).symm, by omega⟩
  intro i m hm
  obtain ⟨e, hi⟩ := key i m hm
  refine ⟨by rw [e]; simp [nameA], fun j m' hm' he => ?_⟩
  obtain ⟨e', hj⟩ := key j m' hm'
  rw [e, e'] at he
  unfold nameA at he
  have := congrArg UInt8.toNat (List.cons.inj he).1
  simp only [UInt8.toNat_ofNat'] at this
  omega
/-- The rows whose tuples begin with one of some values. -/
def byFst (seen : List Vl) (ws : List RR) : List RR := ws.filter fun y => decide (∃ v ∈ seen, fst? y.t = some v)
theorem can_filter {Q : RR → Bool} (h : IsCan (rows ws)) : IsCan (rows (ws.filter Q)) := ⟨up_filter h.1, fun x hx => by
  obtain ⟨z, hz, rfl⟩ := mem_rows.1 hx
  exact h.2 _ (mem_rows.2 ⟨z, (List.mem_filter.1 hz).1, rfl⟩)⟩
structure SelI (ws : List RR) (i : Nat) (seen : List Vl) (cnt : Nat) (ps : List RR) : Prop where
  saw : ∀ v, v ∈ seen ↔ ∃ y ∈ ws.take i, fst? y.t = some v
  num : cnt = (byFst seen ws).length
  alike : rows ps = rows (byFst seen ws)
theorem byFst_nil (ws : List RR) : byFst [] ws = [] := by unfold byFst; rw [List.filter_eq_nil_iff]; intro a _; simp
theorem SelI.start (ws : List RR) : SelI ws 0 [] 0 [] := ⟨fun v => by simp, by rw [byFst_nil]; rfl, by rw [byFst_nil]⟩
variable {i cnt : Nat} {seen : List Vl} {ps qs : List RR} {x : RR} {v : Vl}
theorem SelI.old (h : SelI ws i seen cnt ps) (hx : ws[i]? = some x) (hv : fst? x.t = some v) (hs : v ∈ seen) : SelI ws (i + 1) seen cnt ps := by
  refine ⟨fun u => ?_, h.num, h.alike⟩
  rw [h.saw u, take_succ' hx]
  constructor
  · rintro ⟨y, hy, e⟩; exact ⟨y, List.mem_append_left _ hy, e⟩
  · rintro ⟨y, hy, e⟩
    rcases List.mem_append.1 hy with hy | hy
    · exact ⟨y, hy, e⟩
    · rw [List.mem_singleton.1 hy, hv] at e
      cases e
      exact (h.saw v).1 hs
theorem byFst_more (hs : v ∉ seen) (ws : List RR) : (byFst (seen ++ [v]) ws).length = (byFst seen ws).length + (ws.filter fun y => decide (fst? y.t = some v)).length := by
  induction ws with
  | nil => rfl
  | cons y ws ih =>
    unfold byFst at ih ⊢
    rw [List.filter_cons, List.filter_cons, List.filter_cons]
    by_cases h1 : fst? y.t = some v
    · have h2 : ¬ ∃ u ∈ seen, fst? y.t = some u := by
        rintro ⟨u, hu, e⟩
        rw [h1] at e
        cases e
        exact hs hu
      rw [if_pos (decide_eq_true ⟨v, by simp, h1⟩), if_neg (by rw [decide_eq_false h2]; simp), if_pos (decide_eq_true h1), List.length_cons, List.length_cons, ih]
      omega
    · by_cases h2 : ∃ u ∈ seen, fst? y.t = some u
      · have h3 : ∃ u ∈ seen ++ [v], fst? y.t = some u := by obtain ⟨u, hu, e⟩ := h2; exact ⟨u, List.mem_append_left _ hu, e⟩
        rw [if_pos (decide_eq_true h3), if_pos (decide_eq_true h2), if_neg (by rw [decide_eq_false h1]; simp), List.length_cons, List.length_cons, ih]
        omega
      · have h3 : ¬ ∃ u ∈ seen ++ [v], fst? y.t = some u := by
          rintro ⟨u, hu, e⟩
          rcases List.mem_append.1 hu with hu | hu
          · exact h2 ⟨u, hu, e⟩
          · rw [List.mem_singleton.1 hu] at e; exact h1 e
        rw [if_neg (by rw [decide_eq_false h3]; simp), if_neg (by rw [decide_eq_false h2]; simp), if_neg (by rw [decide_eq_false h1]; simp), ih]
theorem mom_byP {Q : Tp → Bool} (ws : List RR) (t : Tp) (k : Nat) : mom (rows (ws.filter fun y => Q y.t)) t k = (Q t && mom (rows ws) t k) := mom_filter Q ws t k
theorem part_is {n : Nat} (hw : CanOf (xs.filter fun x => decide (x.t.length = n)) ws) (hz : CanOf (xs.filter fun x => decide (x.t.length = n) && decide (fst? x.t = some v)) zs) : rows zs = rows (ws.filter fun y => decide (fst? y.t = some v)) := by
  refine same_of hz.can (can_filter hw.can) fun t k hk => ?_
  rw [hz.mom t k hk, mom_filter (fun t => decide (t.length = n) && decide (fst? t = some v)), mom_filter (fun t => decide (fst? t = some v)), hw.mom t k hk, mom_filter (fun t => decide (t.length = n)), ← Bool.and_assoc, Bool.and_comm (decide (t.length = n))]
theorem SelI.fresh {n : Nat} (h : SelI ws i seen cnt ps) (hx : ws[i]? = some x) (hv : fst? x.t = some v) (hs : v ∉ seen) (hw : CanOf (xs.filter fun x => decide (x.t.length = n)) ws) (hz : CanOf (xs.filter fun x => decide (x.t.length = n) && decide (fst? x.t = some v)) zs) (hq : OpOf opU ps zs qs) : SelI ws (i + 1) (seen ++ [v]) (cnt + zs.length) qs := by
  have hp := part_is hw hz
  refine ⟨fun u => ?_, ?_, ?_⟩
  · rw [List.mem_append, List.mem_singleton, h.saw u, take_succ' hx]
    constructor
    · rintro (⟨y, hy, e⟩ | rfl)
      · exact ⟨y, List.mem_append_left _ hy, e⟩
      · exact ⟨x, by simp, hv⟩
    · rintro ⟨y, hy, e⟩
      rcases List.mem_append.1 hy with hy | hy
      · exact .inl ⟨y, hy, e⟩
      · rw [List.mem_singleton.1 hy, hv] at e
        cases e
        exact .inr rfl
  · rw [byFst_more hs, ← h.num]
    have := congrArg List.length hp
    rw [rows_length, rows_length] at this
    omega
  · refine same_of hq.can (can_filter hw.can) fun t k hk => ?_
    rw [hq.mom t k hk, h.alike, hp]
    unfold byFst
    rw [mom_filter (fun t => decide (∃ v ∈ seen, fst? t = some v)), mom_filter (fun t => decide (fst? t = some v)), mom_filter (fun t => decide (∃ u ∈ seen ++ [v], fst? t = some u))]
    unfold opU
    rw [← Bool.and_or_distrib_right]
    congr 1
    rw [Bool.eq_iff_iff, Bool.or_eq_true, decide_eq_true_iff, decide_eq_true_iff, decide_eq_true_iff]
    constructor
    · rintro (⟨u, hu, e⟩ | e)
      · exact ⟨u, List.mem_append_left _ hu, e⟩
      · exact ⟨v, by simp, e⟩
    · rintro ⟨u, hu, e⟩
      rcases List.mem_append.1 hu with hu | hu
      · exact .inl ⟨u, hu, e⟩
      · rw [List.mem_singleton.1 hu] at e; exact .inr e
theorem SelI.whole (h : SelI ws ws.length seen cnt ps) (hf : ∀ y ∈ ws, ∃ v, fst? y.t = some v) : cnt = ws.length ∧ rows ps = rows ws := by
  have : byFst seen ws = ws := by
    unfold byFst
    rw [List.filter_eq_self]
    intro y hy
    obtain ⟨v, e⟩ := hf y hy
    exact decide_eq_true ⟨v, (h.saw v).2 ⟨y, by rw [List.take_length]; exact hy, e⟩, e⟩
  rw [h.num, h.alike, this]
  exact ⟨rfl, rfl⟩
theorem SelI.sml {n : Nat} (h : SelI ws i seen cnt ps) (hw : Sml n ws) : Sml n ps ∧ cnt ≤ n := by
  have h1 : (byFst seen ws).length ≤ ws.length := List.length_filter_le _ _
  have h2 := congrArg List.length h.alike
  rw [rows_length, rows_length] at h2
  have := hw.len
  refine ⟨⟨by omega, fun y hy => ?_⟩, by rw [h.num]; omega⟩
  have h3 : y.rw ∈ rows (byFst seen ws) := by rw [← h.alike]; exact mem_rows.2 ⟨y, hy, rfl⟩
  obtain ⟨z, hz, e⟩ := mem_rows.1 h3
  have h4 := hw.each z (List.mem_filter.1 hz).1
  have e1 : z.t = y.t := congrArg Prod.fst e
  have e2 : z.s = y.s := congrArg Prod.snd e
  rw [← e1, ← e2]; exact h4
theorem lens {n : Nat} (hw : CanOf (xs.filter fun x => decide (x.t.length = n)) ws) : ∀ y ∈ ws, y.t.length = n := fun y hy => by
  have hc := hw.can
  obtain ⟨k, hk, e⟩ := ok_some (hc.2 y.rw (mem_rows.2 ⟨y, hy, rfl⟩))
  have h1 : mom (rows ws) y.t k = true := by
    unfold mom
    rw [List.any_eq_true]
    exact ⟨y.rw, mem_rows.2 ⟨y, hy, rfl⟩, by rw [Bool.and_eq_true, decide_eq_true_eq]; exact ⟨rfl, e⟩⟩
  rw [hw.mom _ k hk, mom_filter (fun t => decide (t.length = n)), Bool.and_eq_true, decide_eq_true_eq] at h1
  exact h1.1
theorem fst_of {n : Nat} {t : Tp} (h : t.length = n) (hn : 0 < n) : ∃ v, fst? t = some v := ⟨_, List.getElem?_eq_getElem (by omega)⟩
end
end Go.Proofs.YtdibijhaiaiifaaDoor
/- Plain laws of the reference of relations: Put, Of, and what follows from them. -/
namespace Go.Proofs.YtdibijhaiaiifaaDoor
section
variable {xs ys zs out : List RR} {t : Tp} {s : List Sp} {i : Nat} {done : Bool} {x r : RR}
/-- What Put has made before row i. -/
structure PutI (xs : List RR) (t : Tp) (s : List Sp) (i : Nat) (done : Bool) (out : List RR) : Prop where
  can : IsCan (rows out)
  mom : ∀ t' k, k < 64 → mom (rows out) t' k = if t' = t then (done && setOf s k) else mom (rows (xs.take i)) t' k
  lt : ∀ y ∈ out, ∀ z ∈ xs.drop i, cmpT y.t z.t < 0 ∨ z.t = t
  cur : done = false → ∀ y ∈ out, cmpT y.t t < 0
  len : out.length ≤ i + (if done then 1 else 0)
  each : ∀ y ∈ out, (y.t = t ∧ y.s = s) ∨ y ∈ xs
theorem PutI.start (xs : List RR) (t : Tp) (s : List Sp) : PutI xs t s 0 false [] := ⟨⟨trivial, by simp [rows]⟩, fun t' k _ => by simp [rows, mom_nil], by simp, by simp, by simp, by simp⟩
theorem PutI.new (h : PutI xs t s i false out) (hs : OkW s) (hi : ∀ z ∈ xs.drop i, cmpT t z.t < 0 ∨ z.t = t) (hrt : r.t = t) (hrs : r.s = s) : PutI xs t s i true (out ++ [r]) := by
  refine ⟨can_snoc h.can (by rw [hrt]; exact h.cur rfl) (by rw [hrs]; exact hs), fun t' k hk => ?_, fun y hy z hz => ?_, (fun e => by cases e), ?_, fun y hy => ?_⟩
  · rw [rows_append, mom_append, h.mom t' k hk, mom_one, hrt, hrs]
    by_cases e : t' = t
    · subst e
      rw [if_pos rfl, if_pos rfl, decide_eq_true rfl]; rfl
    · rw [if_neg e, if_neg e, decide_eq_false (fun e' => e e'.symm), Bool.false_and, Bool.or_false]
  · rcases List.mem_append.1 hy with hy | hy
    · exact h.lt y hy z hz
    · rw [List.mem_singleton.1 hy, hrt]; exact hi z hz
  · have := h.len; rw [List.length_append]; simp at this ⊢; omega
  · rcases List.mem_append.1 hy with hy | hy
    · exact h.each y hy
    · rw [List.mem_singleton.1 hy]; exact .inl ⟨hrt, hrs⟩
theorem PutI.none (h : PutI xs t s i false out) (hs : s = []) : PutI xs t s i true out := by
  refine ⟨h.can, fun t' k hk => ?_, h.lt, (fun e => by cases e), by have := h.len; simp at this ⊢; omega, h.each⟩
  rw [h.mom t' k hk, hs, setOf_nil]; rfl
theorem mom_next (hx : xs[i]? = some x) (t' : Tp) (k : Nat) : mom (rows (xs.take (i + 1))) t' k = (mom (rows (xs.take i)) t' k || (decide (x.t = t') && setOf x.s k)) := by rw [take_succ' hx, rows_append, mom_append, mom_one]
theorem drop_next (hx : xs[i]? = some x) : xs.drop i = x :: xs.drop (i + 1) := by
  obtain ⟨hl, e⟩ := List.getElem?_eq_some_iff.1 hx
  rw [List.drop_eq_getElem_cons hl, e]
theorem PutI.skip (h : PutI xs t s i true out) (hx : xs[i]? = some x) (he : x.t = t) : PutI xs t s (i + 1) true out := by
  refine ⟨h.can, fun t' k hk => ?_, fun y hy z hz => h.lt y hy z (by rw [drop_next hx]; exact List.mem_cons_of_mem _ hz), (fun e => by cases e), by have := h.len; omega, h.each⟩
  rw [h.mom t' k hk, mom_next hx]
  by_cases e : t' = t
  · rw [if_pos e, if_pos e]
  · rw [if_neg e, if_neg e, he, decide_eq_false (fun e' => e e'.symm), Bool.false_and, Bool.or_false]
theorem up_drop : ∀ {l : List RR} {i : Nat} {x : RR}, Up (rows l) → l[i]? = some x → ∀ z ∈ l.drop (i + 1), cmpT x.t z.t < 0
  | y :: l, 0, x, h, hx, z, hz => by
    have e : y = x := by simpa using hx
    subst e
    exact up_head h z (by simpa using hz)
  | y :: l, i + 1, x, h, hx, z, hz => up_drop (l := l) (i := i) h.2 (by simpa using hx) z (by simpa using hz)
theorem PutI.row (h : PutI xs t s i done out) (hc : IsCan (rows xs)) (hx : xs[i]? = some x) (he : x.t ≠ t) (hd : done = false → cmpT x.t t < 0) : PutI xs t s (i + 1) done (out ++ [x]) := by
  have hm : x ∈ xs := List.mem_of_getElem? hx
  refine ⟨can_snoc h.can (fun y hy => (h.lt y hy x (by rw [drop_next hx]; simp)).resolve_right he) (hc.2 x.rw (mem_rows.2 ⟨x, hm, rfl⟩)), fun t' k hk => ?_, fun y hy z hz => ?_, fun e y hy => ?_, ?_, fun y hy => ?_⟩
  · rw [rows_append, mom_append, h.mom t' k hk, mom_next hx, mom_one]
    by_cases e : t' = t
    · subst e
      rw [if_pos rfl, if_pos rfl, decide_eq_false he, Bool.false_and, Bool.or_false]
    · rw [if_neg e, if_neg e]
  · rcases List.mem_append.1 hy with hy | hy
    · exact h.lt y hy z (by rw [drop_next hx]; exact List.mem_cons_of_mem _ hz)
    · rw [List.mem_singleton.1 hy]; exact .inl (up_drop hc.1 hx z hz)
  · rcases List.mem_append.1 hy with hy | hy
    · exact h.cur e y hy
    · rw [List.mem_singleton.1 hy]; exact hd e
  · have := h.len; rw [List.length_append]; simp at this ⊢; omega
  · rcases List.mem_append.1 hy with hy | hy
    · exact h.each y hy
    · rw [List.mem_singleton.1 hy]; exact .inr hm
/-- What Put gives. -/
structure PutOf (xs : List RR) (t : Tp) (s : List Sp) (zs : List RR) : Prop where
  can : IsCan (rows zs)
  mom : ∀ t' k, k < 64 → mom (rows zs) t' k = if t' = t then setOf s k else mom (rows xs) t' k
  sml : ∀ n, Sml n xs → t.length ≤ 64 → s.length ≤ 64 → Sml (n + 1) zs
theorem PutI.whole (h : PutI xs t s i true out) (hi : xs.length = i) : PutOf xs t s out := by
  refine ⟨h.can, fun t' k hk => ?_, fun n hn ht hs => ⟨?_, fun y hy => ?_⟩⟩
  · rw [h.mom t' k hk, Bool.true_and, List.take_of_length_le (by omega)]
  · have := h.len; have := hn.len; simp at *; omega
  · rcases h.each y hy with ⟨e1, e2⟩ | h
    · rw [e1, e2]; exact ⟨ht, hs⟩
    · exact hn.each y h
theorem drop_ge (hc : IsCan (rows xs)) (hx : xs[i]? = some x) (hle : cmpT t x.t ≤ 0) : ∀ z ∈ xs.drop i, cmpT t z.t < 0 ∨ z.t = t := by
  intro z hz
  rw [drop_next hx] at hz
  rcases List.mem_cons.1 hz with rfl | hz
  · rcases Int.lt_or_eq_of_le hle with h | h
    · exact .inl h
    · exact .inr ((cmpT_is.eq _ _).1 h).symm
  · exact .inl (cmpT_is.le_lt hle (up_drop hc.1 hx z hz))
/-- What Of has made before row i. -/
structure OfI (xs : List RR) (i : Nat) (out : List RR) : Prop where
  can : IsCan (rows out)
  mom : ∀ t k, k < 64 → mom (rows out) t k = (decide (∃ y ∈ xs.take i, y.t = t) && mom (rows xs) t k)
  sml : (∀ x ∈ xs, x.t.length ≤ 64) → Sml i out
theorem OfI.start (xs : List RR) : OfI xs 0 [] := ⟨⟨trivial, by simp [rows]⟩, fun t k _ => by simp [rows, mom_nil], fun _ => ⟨by simp, by simp⟩⟩
theorem OfI.step (h : OfI xs i out) (hx : xs[i]? = some x) (hp : PutOf out x.t (canon fun k => YtdibijhaiaiifaaDoor.mom (rows xs) x.t k) zs) : OfI xs (i + 1) zs := by
  refine ⟨hp.can, fun t k hk => ?_, fun ha => hp.sml i (h.sml ha) (ha x (List.mem_of_getElem? hx)) (Nat.le_trans (canon_le _) (by omega))⟩
  rw [hp.mom t k hk, h.mom t k hk, take_succ' hx]
  by_cases e : t = x.t
  · subst e
    rw [if_pos rfl, setOf_canon _ k hk, decide_eq_true ⟨x, by simp, rfl⟩]; rfl
  · rw [if_neg e]
    congr 1
    rw [Bool.eq_iff_iff, decide_eq_true_iff, decide_eq_true_iff]
    constructor
    · rintro ⟨y, hy, e⟩; exact ⟨y, List.mem_append_left _ hy, e⟩
    · rintro ⟨y, hy, e'⟩
      rcases List.mem_append.1 hy with hy | hy
      · exact ⟨y, hy, e'⟩
      · rw [List.mem_singleton.1 hy] at e'; exact absurd e'.symm e
theorem mom_some {l : List RR} {t : Tp} {k : Nat} (h : mom (rows l) t k = true) : ∃ y ∈ l, y.t = t := by
  unfold YtdibijhaiaiifaaDoor.mom at h
  rw [List.any_eq_true] at h
  obtain ⟨y, hy, e⟩ := h
  obtain ⟨z, hz, rfl⟩ := mem_rows.1 hy
  rw [Bool.and_eq_true, decide_eq_true_eq] at e
  exact ⟨z, hz, e.1⟩
theorem OfI.whole (h : OfI xs i out) (hi : xs.length = i) : CanOf xs out := by
  refine ⟨h.can, fun t k hk => ?_, fun n hn => ?_⟩
  · rw [h.mom t k hk, List.take_of_length_le (by omega)]
    cases e : YtdibijhaiaiifaaDoor.mom (rows xs) t k with
    | false => exact Bool.and_false _
    | true => rw [decide_eq_true (mom_some e)]; rfl
  · have h1 := h.sml fun x hx => (hn.each x hx).1
    have := hn.len
    exact ⟨by have := h1.len; omega, h1.each⟩
variable {ns : List RR} {s' : List Sp}
/-- Insert and Remove of the reference. -/
theorem ins_of {op : Bool → Bool → Bool} (ho : ∀ b, op b false = b) (hn : CanOf xs ns) (hp : PutOf ns t (canon fun k => op (setOf (canon fun k => mom (rows xs) t k) k) (setOf s k)) zs) : OpOf op xs [rr t s] zs := by
  refine ⟨hp.can, fun t' k hk => ?_, fun n m hn' hm => ?_⟩
  · rw [hp.mom t' k hk]
    by_cases e : t' = t
    · subst e
      rw [if_pos rfl, setOf_canon _ k hk, setOf_canon _ k hk, one_self]
    · rw [if_neg e, one_other (fun e' => e e'.symm), ho, hn.mom t' k hk]
  · have h1 := hm.len
    have h2 := (hm.each (rr t s) (by simp)).1
    exact (hp.sml n (hn.sml n hn') h2 (Nat.le_trans (canon_le _) (by omega))).mono (by simp at h1; omega)
/-- What the loops over Insert and Remove have made before row i. -/
structure CatI (op : Bool → Bool → Bool) (xs ys : List RR) (i : Nat) (out : List RR) : Prop where
  can : IsCan (rows out)
  mom : ∀ t k, k < 64 → mom (rows out) t k = op (mom (rows xs) t k) (mom (rows (ys.take i)) t k)
  sml : ∀ n, Sml n xs → (∀ y ∈ ys, y.t.length ≤ 64 ∧ y.s.length ≤ 64) → Sml (n + i) out
theorem CatI.start {op : Bool → Bool → Bool} (ho : ∀ b, op b false = b) (h : CanOf xs ns) (ys : List RR) : CatI op xs ys 0 ns := ⟨h.can, fun t k hk => by rw [h.mom t k hk]; simp [rows, mom_nil, ho], fun n hn _ => h.sml n hn⟩
theorem CatI.step {op : Bool → Bool → Bool} (ha : ∀ a b c, op (op a b) c = op a (b || c)) (h : CatI op xs ys i out) (hx : ys[i]? = some x) (hp : OpOf op out [rr x.t x.s] zs) : CatI op xs ys (i + 1) zs := by
  refine ⟨hp.can, fun t k hk => ?_, fun n hn hy => ?_⟩
  · rw [hp.mom t k hk, h.mom t k hk, ha, mom_next hx, mom_one]; rfl
  · obtain ⟨h1, h2⟩ := hy x (List.mem_of_getElem? hx)
    exact (hp.sml _ 1 (h.sml n hn hy) (Sml.one h1 h2 (Nat.le_refl _))).mono (by omega)
theorem CatI.whole {op : Bool → Bool → Bool} (h : CatI op xs ys i out) (hi : ys.length = i) : OpOf op xs ys out := by
  refine ⟨h.can, fun t k hk => by rw [h.mom t k hk, List.take_of_length_le (by omega)], fun n m hn hm => ?_⟩
  have h1 := h.sml n hn hm.each
  exact h1.mono (by have := hm.len; omega)
/-- What Meet has made before row i of the canonical list. -/
structure MeetI (ls ys : List RR) (i : Nat) (out : List RR) : Prop where
  can : IsCan (rows out)
  mom : ∀ t k, k < 64 → mom (rows out) t k = (mom (rows ls) t k && (decide (¬ ∃ y ∈ ls.take i, y.t = t) || mom (rows ys) t k))
  sml : ∀ n, Sml n ls → Sml (n + i) out
theorem MeetI.start (hc : IsCan (rows zs)) (ys : List RR) : MeetI zs ys 0 zs := ⟨hc, fun t k _ => by simp, fun _ h => h⟩
theorem mom_at : ∀ {l : List RR} {i : Nat} {x : RR}, Up (rows l) → l[i]? = some x → ∀ k, mom (rows l) x.t k = setOf x.s k
  | y :: l, 0, x, h, hx, k => by
    have e : y = x := by simpa using hx
    subst e
    exact mom_head h k
  | y :: l, i + 1, x, h, hx, k => by
    have hx' : l[i]? = some x := by simpa using hx
    have hlt := up_head h x (List.mem_of_getElem? hx')
    rw [rows_cons, mom_tail (fun e => by
      have e' : y.t = x.t := e
      rw [e', cmpT_is.refl] at hlt; omega)]
    exact mom_at h.2 hx' k
theorem MeetI.step (hc : IsCan (rows xs)) (h : MeetI xs ys i out) (hx : xs[i]? = some x) (ht : x.t.length ≤ 64) (hp : PutOf out x.t (canon fun k => setOf x.s k && setOf (canon fun k => YtdibijhaiaiifaaDoor.mom (rows ys) x.t k) k) zs) : MeetI xs ys (i + 1) zs := by
  refine ⟨hp.can, fun t k hk => ?_, fun n hn => hp.sml _ (h.sml n hn) ht (Nat.le_trans (canon_le _) (by omega))⟩
  rw [hp.mom t k hk, h.mom t k hk, take_succ' hx]
  by_cases e : t = x.t
  · subst e
    have hex : ∃ y ∈ xs.take i ++ [x], y.t = x.t := ⟨x, by simp, rfl⟩
    rw [if_pos rfl, setOf_canon _ k hk, setOf_canon _ k hk, decide_eq_false (fun hn => hn hex), Bool.false_or, mom_at hc.1 hx]
  · rw [if_neg e]
    have : (∃ y ∈ xs.take i ++ [x], y.t = t) ↔ ∃ y ∈ xs.take i, y.t = t := by
      constructor
      · rintro ⟨y, hy, e'⟩
        rcases List.mem_append.1 hy with hy | hy
        · exact ⟨y, hy, e'⟩
        · rw [List.mem_singleton.1 hy] at e'; exact absurd e'.symm e
      · rintro ⟨y, hy, e⟩; exact ⟨y, List.mem_append_left _ hy, e⟩
    simp only [this]
theorem MeetI.whole {al : List RR} (hn : CanOf al xs) (h : MeetI xs ys i out) (hi : xs.length = i) : ∀ t k, k < 64 → YtdibijhaiaiifaaDoor.mom (rows out) t k = opM (YtdibijhaiaiifaaDoor.mom (rows al) t k) (YtdibijhaiaiifaaDoor.mom (rows ys) t k) := by
  intro t k hk
  rw [h.mom t k hk, List.take_of_length_le (by omega), ← hn.mom t k hk]
  unfold opM
  cases e : YtdibijhaiaiifaaDoor.mom (rows xs) t k with
  | false => rfl
  | true => rw [decide_eq_false (fun hn => hn (mom_some e)), Bool.false_or]
end
end Go.Proofs.YtdibijhaiaiifaaDoor
