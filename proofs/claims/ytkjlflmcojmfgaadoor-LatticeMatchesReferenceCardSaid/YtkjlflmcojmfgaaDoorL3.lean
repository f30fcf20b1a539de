/- The law LatticeMatchesReference. -/
import Derived.Test.YtkjlflmcojmfgaaDoorWv
import Derived.Test.YtkjlflmcojmfgaaDoorWn
namespace Go.Proofs.YtkjlflmcojmfgaaDoor
open Go.RowKit
theorem IntsRet.ts {P : Program} {f : FuncId} {args : Array Value} {l l2 : List Int} {w : World} {Q : Ending → World → Prop} (h : Calls P f args w (IntsRet l w)) (hl : Hid (l = l2)) (k : ∀ a c w', IsInts w' (.slice a l2.length c) l2 → Below w.heap.size w w' → Q (.returned (.slice a l2.length c)) w') : Calls P f args w Q :=
  h.mono fun e w' ⟨a, c, he, hi, hb⟩ => by subst he; rw [hl.out] at hi ⊢; exact k a c w' hi hb
theorem val_ts {P : Program} {f : FuncId} {args : Array Value} {v v2 : Value} {w : World} {Q : Ending → World → Prop} (h : Calls P f args w fun e w' => e = .returned v ∧ Below w.heap.size w w') (hv : Hid (v = v2)) (k : ∀ w', Below w.heap.size w w' → Q (.returned v2) w') : Calls P f args w Q :=
  h.mono fun e w' ⟨he, hb⟩ => by subst he; rw [hv.out]; exact k w' hb
set_option maxHeartbeats 16000000 in
set_option maxRecDepth 100000 in
theorem law3_any (v : Value) (L : Ltc) (a b : Int) (lv : Value) (l : List Int) (w : World) (h : IsLtc w v L) (hl : IsInts w lv l) (hKK : KeysAt w 0 ∧ KeysAt w 1) : Calls Tryd.prog 3 #[v, .int .i64 a, .int .i64 b, lv] w fun e w' => e = .returned (.bool true) ∧ Below w.heap.size w w' := by
  obtain ⟨hK, hK1⟩ := hKK
  have hl0 := hl
  obtain ⟨la, lc, rfl, n1, n2, n3⟩ := IsRows.shape hl
  have h0 := h
  obtain ⟨ea, ec, ca, cc, rfl, -, -, m1, m2, m3⟩ := h.shape
  have g0 := heap_alloc_new w (.cells #[.string L.name.1, .slice ea L.elems.length ec, .slice ca L.covers.length cc, .int .i64 L.at_] 25)
  have b0 := below_new w (.cells #[.string L.name.1, .slice ea L.elems.length ec, .slice ca L.covers.length cc, .int .i64 L.at_] 25)
  obtain ⟨wb, hwb⟩ : ∃ x : World, x = w.alloc (.cells #[.string L.name.1, .slice ea L.elems.length ec, .slice ca L.covers.length cc, .int .i64 L.at_] 25) := ⟨_, rfl⟩
  rw [← hwb] at g0 b0
  obtain ⟨y0, y1, y2, y3⟩ := Box4.of g0
  go_enter Tryd.func3, Tryd.ntmps3
  go_wp2_with fail
  rw [← hwb]
  clear hwb y0 y1 y2 y3
  refine (head_any _ (hK.keep (keeps_below b0))).mono ?_
  rintro e w1 ⟨rfl, bN⟩
  replace g0 := block_keep g0 bN
  replace b0 := below_trans b0 bN
  clear bN
  obtain ⟨y0, y1, y2, y3⟩ := Box4.of g0
  go_wp2_with fail
  refine (Small_any _ L _ (h0.keep (keeps_below b0))).mono ?_
  rintro e w2 ⟨rfl, bN⟩
  replace g0 := block_keep g0 bN
  replace b0 := below_trans b0 bN
  clear bN y0 y1 y2 y3
  cases hsm : smallL L
  · go_wp2
    go_ret
    exact ⟨rfl, b0⟩
  clear hsm
  by_cases h60 : l.length ≤ 60
  case neg =>
    have q1 : decide ((60 : Int) < (l.length : Int)) = true := decide_eq_true (by omega)
    have q2 : decide (60 < l.length) = true := decide_eq_true (by omega)
    go_wp2
    go_ret
    exact ⟨rfl, b0⟩
  have q1 : decide ((60 : Int) < (l.length : Int)) = false := decide_eq_false (by omega)
  have q2 : decide (60 < l.length) = false := decide_eq_false (by omega)
  go_upto_region 4 with fail
  clear q1 q2
  obtain ⟨c, hc⟩ : ∃ x : Int, checkL L = x := ⟨_, rfl⟩
  have HVc := Lib.hid (congrArg (Value.int .i64 ·) hc : Value.int .i64 (checkL L) = .int .i64 c)
  have qqc : (c == c) = true := by simp
  clear hc
  obtain ⟨p, hp⟩ : ∃ x : Bool, leqL L a b = x := ⟨_, rfl⟩
  have HVp := Lib.hid (congrArg (Value.bool ·) hp : Value.bool (leqL L a b) = .bool p)
  have qqp : (p == p) = true := by simp
  clear hp
  obtain ⟨j, hj⟩ : ∃ x : Int, lubL L [a, b] = x := ⟨_, rfl⟩
  have HVj := Lib.hid (congrArg (Value.int .i64 ·) hj : Value.int .i64 (lubL L [a, b]) = .int .i64 j)
  have qqj : (j == j) = true := by simp
  clear hj
  obtain ⟨m, hm⟩ : ∃ x : Int, lubL L l = x := ⟨_, rfl⟩
  have HVm := Lib.hid (congrArg (Value.int .i64 ·) hm : Value.int .i64 (lubL L l) = .int .i64 m)
  have qqm : (m == m) = true := by simp
  clear hm
  obtain ⟨z, hz⟩ : ∃ x : Int, lubL L [] = x := ⟨_, rfl⟩
  have HVz := Lib.hid (congrArg (Value.int .i64 ·) hz : Value.int .i64 (lubL L []) = .int .i64 z)
  have qqz : (z == z) = true := by simp
  clear hz
  obtain ⟨q, hq⟩ : ∃ x : Bool, monoL L l = x := ⟨_, rfl⟩
  have HVq := Lib.hid (congrArg (Value.bool ·) hq : Value.bool (monoL L l) = .bool q)
  have qqq : (q == q) = true := by simp
  clear hq
  obtain ⟨ir, hir⟩ : ∃ x, irrL L = x := ⟨_, rfl⟩
  have HIR := Lib.hid hir
  have HII := Lib.hid (show Value.bool (decide (ir = ir)) = .bool true by simp)
  clear hir
  have HAL := Lib.hid (fun W (hW : Below w2.heap.size w2 W) => (⟨h0.keep (keeps_below (below_trans b0 hW)), hK.keep (keeps_below (below_trans b0 hW)), hK1.keep (keeps_below (below_trans b0 hW)), hl0.keep (keeps_below (below_trans b0 hW))⟩ : IsLtc W _ L ∧ KeysAt W 0 ∧ KeysAt W 1 ∧ IsInts W (.slice la l.length lc) l))
  have HS : ∀ W, Below w2.heap.size w2 W → (fun w' => w'.cell? ⟨w.heap.size, 0, none⟩ = some (.string L.name.1) ∧ w'.cell? ⟨w.heap.size, 1, none⟩ = some (.slice ea L.elems.length ec) ∧ w'.cell? ⟨w.heap.size, 2, none⟩ = some (.slice ca L.covers.length cc) ∧ w'.cell? ⟨w.heap.size, 3, none⟩ = some (.int .i64 L.at_)) W := fun W hW => ⟨(Box4.of (block_keep g0 hW)).c0, (Box4.of (block_keep g0 hW)).c1, (Box4.of (block_keep g0 hW)).c2, (Box4.of (block_keep g0 hW)).c3⟩
  refine wp_region_noPanic ?_
  refine wp_region_late (fun w' => w'.cell? ⟨w.heap.size, 0, none⟩ = some (.string L.name.1) ∧ w'.cell? ⟨w.heap.size, 1, none⟩ = some (.slice ea L.elems.length ec) ∧ w'.cell? ⟨w.heap.size, 2, none⟩ = some (.slice ca L.covers.length cc) ∧ w'.cell? ⟨w.heap.size, 3, none⟩ = some (.int .i64 L.at_)) 63 (by kernel_rfl) (HS _ (below_drew' (Below.refl _ _))) (fun hHeld => ?_)
  refine any_take (by kernel_rfl) (i := 0) (oi := _) (v := ?_) rfl rfl (by kernel_rfl) (by kernel_rfl) (by kernel_rfl) (fun _ _ _ h => h) (Or.inl ⟨by rfl, ?_⟩) hHeld ?_
  rotate_left
  · intro w' hSw; try dsimp only at hSw
    go_simp
    try with_reducible rfl
  try simp only [puts, gets]
  refine any_take (by kernel_rfl) (i := 1) (oi := _) (v := ?_) rfl rfl (by kernel_rfl) (by kernel_rfl) (by kernel_rfl) (fun _ _ _ h => h) (Or.inl ⟨by rfl, ?_⟩) hHeld ?_
  rotate_left
  · intro w' hSw; try dsimp only at hSw
    go_simp
    try with_reducible rfl
  try simp only [puts, gets]
  refine any_take (by kernel_rfl) (i := 2) (oi := _) (v := ?_) rfl rfl (by kernel_rfl) (by kernel_rfl) (by kernel_rfl) (fun _ _ _ h => h) (Or.inl ⟨by rfl, ?_⟩) hHeld ?_
  rotate_left
  · intro w' hSw; try dsimp only at hSw
    go_simp
    try with_reducible rfl
  try simp only [puts, gets]
  refine any_take (by kernel_rfl) (i := 4) (oi := _) (v := ?_) rfl rfl (by kernel_rfl) (by kernel_rfl) (by kernel_rfl) (fun _ _ _ h => h) (Or.inl ⟨by rfl, ?_⟩) hHeld ?_
  rotate_left
  · intro w' hSw; try dsimp only at hSw
    go_simp
    try with_reducible rfl
  try simp only [puts, gets]
  refine any_next (i := 3) (by kernel_rfl) rfl rfl (fun K hK => ?_)
  go_simp
  go_at_call 12
  refine val_ts (Check_any _ L _ (HAL.out _ (below_drew' (Below.refl _ _))).1 (HAL.out _ (below_drew' (Below.refl _ _))).2.1) HVc ?_
  intro wq1 bq
  have bB1 : Below w2.heap.size w2 wq1 := below_undrew bq
  clear bq
  refine hK.out _ _ ?_ (fun hHeld => ?_)
  · exact HS _ bB1
  clear hK K
  try simp only [puts, gets]
  refine any_next (i := 5) (by kernel_rfl) rfl rfl (fun K hK => ?_)
  go_simp
  go_at_call 13
  refine val_ts (Check_ref _ L _ (HAL.out _ bB1).1 (HAL.out _ bB1).2.2.1) HVc ?_
  intro wq2 bq
  have bB2 : Below w2.heap.size w2 wq2 := below_trans bB1 bq
  clear bq
  refine hK.out _ _ ?_ (fun hHeld => ?_)
  · exact HS _ bB2
  clear hK K
  try simp only [puts, gets]
  refine any_take (by kernel_rfl) (i := 6) (oi := _) (v := ?_) rfl rfl (by kernel_rfl) (by kernel_rfl) (by kernel_rfl) (fun _ _ _ h => h) (Or.inl ⟨by rfl, ?_⟩) hHeld ?_
  rotate_left
  · intro w' hSw; try dsimp only at hSw
    go_simp
    try with_reducible rfl
  try simp only [puts, gets]
  refine any_take (by kernel_rfl) (i := 7) (oi := _) (v := ?_) rfl rfl (by kernel_rfl) (by kernel_rfl) (by kernel_rfl) (fun _ _ _ h => h) (Or.inl ⟨by rfl, ?_⟩) hHeld ?_
  rotate_left
  · intro w' hSw; try dsimp only at hSw
    go_simp
    try with_reducible rfl
  try simp only [puts, gets]
  refine any_take (by kernel_rfl) (i := 8) (oi := _) (v := ?_) rfl rfl (by kernel_rfl) (by kernel_rfl) (by kernel_rfl) (fun _ _ _ h => h) (Or.inl ⟨by rfl, ?_⟩) hHeld ?_
  rotate_left
  · intro w' hSw; try dsimp only at hSw
    go_simp
    try with_reducible rfl
  try simp only [puts, gets]
  refine any_take (by kernel_rfl) (i := 9) (oi := _) (v := ?_) rfl rfl (by kernel_rfl) (by kernel_rfl) (by kernel_rfl) (fun _ _ _ h => h) (Or.inl ⟨by rfl, ?_⟩) hHeld ?_
  rotate_left
  · intro w' hSw; try dsimp only at hSw
    go_simp
    try with_reducible rfl
  try simp only [puts, gets]
  refine any_take (by kernel_rfl) (i := 10) (oi := _) (v := ?_) rfl rfl (by kernel_rfl) (by kernel_rfl) (by kernel_rfl) (fun _ _ _ h => h) (Or.inl ⟨by rfl, ?_⟩) hHeld ?_
  rotate_left
  · intro w' hSw; try dsimp only at hSw
    go_simp
    try with_reducible rfl
  try simp only [puts, gets]
  refine any_take (by kernel_rfl) (i := 11) (oi := _) (v := ?_) rfl rfl (by kernel_rfl) (by kernel_rfl) (by kernel_rfl) (fun _ _ _ h => h) (Or.inl ⟨by rfl, ?_⟩) hHeld ?_
  rotate_left
  · intro w' hSw; try dsimp only at hSw
    go_simp
    try with_reducible rfl
  try simp only [puts, gets]
  refine any_take (by kernel_rfl) (i := 13) (oi := _) (v := ?_) rfl rfl (by kernel_rfl) (by kernel_rfl) (by kernel_rfl) (fun _ _ _ h => h) (Or.inl ⟨by rfl, ?_⟩) hHeld ?_
  rotate_left
  · intro w' hSw; try dsimp only at hSw
    go_simp
    try with_reducible rfl
  try simp only [puts, gets]
  refine any_take (by kernel_rfl) (i := 14) (oi := _) (v := ?_) rfl rfl (by kernel_rfl) (by kernel_rfl) (by kernel_rfl) (fun _ _ _ h => h) (Or.inl ⟨by rfl, ?_⟩) hHeld ?_
  rotate_left
  · intro w' hSw; try dsimp only at hSw
    go_simp
    try with_reducible rfl
  try simp only [puts, gets]
  refine any_take (by kernel_rfl) (i := 15) (oi := _) (v := ?_) rfl rfl (by kernel_rfl) (by kernel_rfl) (by kernel_rfl) (fun _ _ _ h => h) (Or.inl ⟨by rfl, ?_⟩) hHeld ?_
  rotate_left
  · intro w' hSw; try dsimp only at hSw
    go_simp
    try with_reducible rfl
  try simp only [puts, gets]
  refine any_next (i := 12) (by kernel_rfl) rfl rfl (fun K hK => ?_)
  go_simp
  go_at_call 14
  refine val_ts (Leq_any _ L a b _ (HAL.out _ bB2).1 (HAL.out _ bB2).2.1) HVp ?_
  intro wq3 bq
  have bB3 : Below w2.heap.size w2 wq3 := below_trans bB2 bq
  clear bq
  refine hK.out _ _ ?_ (fun hHeld => ?_)
  · exact HS _ bB3
  clear hK K
  try simp only [puts, gets]
  refine any_next (i := 16) (by kernel_rfl) rfl rfl (fun K hK => ?_)
  go_simp
  go_at_call 15
  refine val_ts (Leq_ref _ L a b _ (HAL.out _ bB3).1 (HAL.out _ bB3).2.2.1) HVp ?_
  intro wq4 bq
  have bB4 : Below w2.heap.size w2 wq4 := below_trans bB3 bq
  clear bq
  refine hK.out _ _ ?_ (fun hHeld => ?_)
  · exact HS _ bB4
  clear hK K
  try simp only [puts, gets]
  refine any_take (by kernel_rfl) (i := 17) (oi := _) (v := ?_) rfl rfl (by kernel_rfl) (by kernel_rfl) (by kernel_rfl) (fun _ _ _ h => h) (Or.inl ⟨by rfl, ?_⟩) hHeld ?_
  rotate_left
  · intro w' hSw; try dsimp only at hSw
    go_simp
    try with_reducible rfl
  try simp only [puts, gets]
  refine any_take (by kernel_rfl) (i := 18) (oi := _) (v := ?_) rfl rfl (by kernel_rfl) (by kernel_rfl) (by kernel_rfl) (fun _ _ _ h => h) (Or.inl ⟨by rfl, ?_⟩) hHeld ?_
  rotate_left
  · intro w' hSw; try dsimp only at hSw
    go_simp
    try with_reducible rfl
  try simp only [puts, gets]
  refine any_take (by kernel_rfl) (i := 19) (oi := _) (v := ?_) rfl rfl (by kernel_rfl) (by kernel_rfl) (by kernel_rfl) (fun _ _ _ h => h) (Or.inl ⟨by rfl, ?_⟩) hHeld ?_
  rotate_left
  · intro w' hSw; try dsimp only at hSw
    go_simp
    try with_reducible rfl
  try simp only [puts, gets]
  refine any_take (by kernel_rfl) (i := 20) (oi := _) (v := ?_) rfl rfl (by kernel_rfl) (by kernel_rfl) (by kernel_rfl) (fun _ _ _ h => h) (Or.inl ⟨by rfl, ?_⟩) hHeld ?_
  rotate_left
  · intro w' hSw; try dsimp only at hSw
    go_simp
    try with_reducible rfl
  try simp only [puts, gets]
  refine any_take (by kernel_rfl) (i := 21) (oi := _) (v := ?_) rfl rfl (by kernel_rfl) (by kernel_rfl) (by kernel_rfl) (fun _ _ _ h => h) (Or.inl ⟨by rfl, ?_⟩) hHeld ?_
  rotate_left
  · intro w' hSw; try dsimp only at hSw
    go_simp
    try with_reducible rfl
  try simp only [puts, gets]
  refine any_take (by kernel_rfl) (i := 22) (oi := _) (v := ?_) rfl rfl (by kernel_rfl) (by kernel_rfl) (by kernel_rfl) (fun _ _ _ h => h) (Or.inl ⟨by rfl, ?_⟩) hHeld ?_
  rotate_left
  · intro w' hSw; try dsimp only at hSw
    go_simp
    try with_reducible rfl
  try simp only [puts, gets]
  refine any_take (by kernel_rfl) (i := 24) (oi := _) (v := ?_) rfl rfl (by kernel_rfl) (by kernel_rfl) (by kernel_rfl) (fun _ _ _ h => h) (Or.inl ⟨by rfl, ?_⟩) hHeld ?_
  rotate_left
  · intro w' hSw; try dsimp only at hSw
    go_simp
    try with_reducible rfl
  try simp only [puts, gets]
  refine any_take (by kernel_rfl) (i := 25) (oi := _) (v := ?_) rfl rfl (by kernel_rfl) (by kernel_rfl) (by kernel_rfl) (fun _ _ _ h => h) (Or.inl ⟨by rfl, ?_⟩) hHeld ?_
  rotate_left
  · intro w' hSw; try dsimp only at hSw
    go_simp
    try with_reducible rfl
  try simp only [puts, gets]
  refine any_take (by kernel_rfl) (i := 26) (oi := _) (v := ?_) rfl rfl (by kernel_rfl) (by kernel_rfl) (by kernel_rfl) (fun _ _ _ h => h) (Or.inl ⟨by rfl, ?_⟩) hHeld ?_
  rotate_left
  · intro w' hSw; try dsimp only at hSw
    go_simp
    try with_reducible rfl
  try simp only [puts, gets]
  refine any_next (i := 23) (by kernel_rfl) rfl rfl (fun K hK => ?_)
  go_simp
  go_at_call 16
  refine val_ts (Join_any _ L a b _ (HAL.out _ bB4).1 (HAL.out _ bB4).2.1) HVj ?_
  intro wq5 bq
  have bB5 : Below w2.heap.size w2 wq5 := below_trans bB4 bq
  clear bq
  refine hK.out _ _ ?_ (fun hHeld => ?_)
  · exact HS _ bB5
  clear hK K
  try simp only [puts, gets]
  refine any_next (i := 27) (by kernel_rfl) rfl rfl (fun K hK => ?_)
  go_simp
  go_at_call 17
  refine val_ts (Join_ref _ L a b _ (HAL.out _ bB5).1 (HAL.out _ bB5).2.2.1) HVj ?_
  intro wq6 bq
  have bB6 : Below w2.heap.size w2 wq6 := below_trans bB5 bq
  clear bq
  refine hK.out _ _ ?_ (fun hHeld => ?_)
  · exact HS _ bB6
  clear hK K
  try simp only [puts, gets]
  refine any_take (by kernel_rfl) (i := 28) (oi := _) (v := ?_) rfl rfl (by kernel_rfl) (by kernel_rfl) (by kernel_rfl) (fun _ _ _ h => h) (Or.inl ⟨by rfl, ?_⟩) hHeld ?_
  rotate_left
  · intro w' hSw; try dsimp only at hSw
    go_simp
    try with_reducible rfl
  try simp only [puts, gets]
  refine any_take (by kernel_rfl) (i := 29) (oi := _) (v := ?_) rfl rfl (by kernel_rfl) (by kernel_rfl) (by kernel_rfl) (fun _ _ _ h => h) (Or.inl ⟨by rfl, ?_⟩) hHeld ?_
  rotate_left
  · intro w' hSw; try dsimp only at hSw
    go_simp
    try with_reducible rfl
  try simp only [puts, gets]
  refine any_take (by kernel_rfl) (i := 30) (oi := _) (v := ?_) rfl rfl (by kernel_rfl) (by kernel_rfl) (by kernel_rfl) (fun _ _ _ h => h) (Or.inl ⟨by rfl, ?_⟩) hHeld ?_
  rotate_left
  · intro w' hSw; try dsimp only at hSw
    go_simp
    try with_reducible rfl
  try simp only [puts, gets]
  refine any_take (by kernel_rfl) (i := 31) (oi := _) (v := ?_) rfl rfl (by kernel_rfl) (by kernel_rfl) (by kernel_rfl) (fun _ _ _ h => h) (Or.inl ⟨by rfl, ?_⟩) hHeld ?_
  rotate_left
  · intro w' hSw; try dsimp only at hSw
    go_simp
    try with_reducible rfl
  try simp only [puts, gets]
  refine any_take (by kernel_rfl) (i := 32) (oi := _) (v := ?_) rfl rfl (by kernel_rfl) (by kernel_rfl) (by kernel_rfl) (fun _ _ _ h => h) (Or.inl ⟨by rfl, ?_⟩) hHeld ?_
  rotate_left
  · intro w' hSw; try dsimp only at hSw
    go_simp
    try with_reducible rfl
  try simp only [puts, gets]
  refine any_take (by kernel_rfl) (i := 34) (oi := _) (v := ?_) rfl rfl (by kernel_rfl) (by kernel_rfl) (by kernel_rfl) (fun _ _ _ h => h) (Or.inl ⟨by rfl, ?_⟩) hHeld ?_
  rotate_left
  · intro w' hSw; try dsimp only at hSw
    go_simp
    try with_reducible rfl
  try simp only [puts, gets]
  refine any_take (by kernel_rfl) (i := 35) (oi := _) (v := ?_) rfl rfl (by kernel_rfl) (by kernel_rfl) (by kernel_rfl) (fun _ _ _ h => h) (Or.inl ⟨by rfl, ?_⟩) hHeld ?_
  rotate_left
  · intro w' hSw; try dsimp only at hSw
    go_simp
    try with_reducible rfl
  try simp only [puts, gets]
  refine any_next (i := 33) (by kernel_rfl) rfl rfl (fun K hK => ?_)
  go_simp
  go_at_call 18
  refine val_ts (Lub_any _ L _ l _ (HAL.out _ bB6).1 (HAL.out _ bB6).2.2.2 (HAL.out _ bB6).2.1) HVm ?_
  intro wq7 bq
  have bB7 : Below w2.heap.size w2 wq7 := below_trans bB6 bq
  clear bq
  refine hK.out _ _ ?_ (fun hHeld => ?_)
  · exact HS _ bB7
  clear hK K
  try simp only [puts, gets]
  refine any_next (i := 36) (by kernel_rfl) rfl rfl (fun K hK => ?_)
  go_simp
  go_at_call 19
  refine val_ts (Lub_ref _ L _ l _ (HAL.out _ bB7).1 (HAL.out _ bB7).2.2.2 (HAL.out _ bB7).2.2.1) HVm ?_
  intro wq8 bq
  have bB8 : Below w2.heap.size w2 wq8 := below_trans bB7 bq
  clear bq
  refine hK.out _ _ ?_ (fun hHeld => ?_)
  · exact HS _ bB8
  clear hK K
  try simp only [puts, gets]
  refine any_take (by kernel_rfl) (i := 37) (oi := _) (v := ?_) rfl rfl (by kernel_rfl) (by kernel_rfl) (by kernel_rfl) (fun _ _ _ h => h) (Or.inl ⟨by rfl, ?_⟩) hHeld ?_
  rotate_left
  · intro w' hSw; try dsimp only at hSw
    go_simp
    try with_reducible rfl
  try simp only [puts, gets]
  refine any_take (by kernel_rfl) (i := 38) (oi := _) (v := ?_) rfl rfl (by kernel_rfl) (by kernel_rfl) (by kernel_rfl) (fun _ _ _ h => h) (Or.inl ⟨by rfl, ?_⟩) hHeld ?_
  rotate_left
  · intro w' hSw; try dsimp only at hSw
    go_simp
    try with_reducible rfl
  try simp only [puts, gets]
  refine any_take (by kernel_rfl) (i := 39) (oi := _) (v := ?_) rfl rfl (by kernel_rfl) (by kernel_rfl) (by kernel_rfl) (fun _ _ _ h => h) (Or.inl ⟨by rfl, ?_⟩) hHeld ?_
  rotate_left
  · intro w' hSw; try dsimp only at hSw
    go_simp
    try with_reducible rfl
  try simp only [puts, gets]
  refine any_take (by kernel_rfl) (i := 40) (oi := _) (v := ?_) rfl rfl (by kernel_rfl) (by kernel_rfl) (by kernel_rfl) (fun _ _ _ h => h) (Or.inl ⟨by rfl, ?_⟩) hHeld ?_
  rotate_left
  · intro w' hSw; try dsimp only at hSw
    go_simp
    try with_reducible rfl
  try simp only [puts, gets]
  refine any_take (by kernel_rfl) (i := 42) (oi := _) (v := ?_) rfl rfl (by kernel_rfl) (by kernel_rfl) (by kernel_rfl) (fun _ _ _ h => h) (Or.inl ⟨by rfl, ?_⟩) hHeld ?_
  rotate_left
  · intro w' hSw; try dsimp only at hSw
    go_simp
    try with_reducible rfl
  try simp only [puts, gets]
  refine any_next (i := 41) (by kernel_rfl) rfl rfl (fun K hK => ?_)
  go_simp
  go_at_call 20
  refine val_ts (Bottom_any _ L _ (HAL.out _ bB8).1 (HAL.out _ bB8).2.1) HVz ?_
  intro wq9 bq
  have bB9 : Below w2.heap.size w2 wq9 := below_trans bB8 bq
  clear bq
  refine hK.out _ _ ?_ (fun hHeld => ?_)
  · exact HS _ bB9
  clear hK K
  try simp only [puts, gets]
  refine any_next (i := 43) (by kernel_rfl) rfl rfl (fun K hK => ?_)
  go_simp
  go_at_call 21
  refine val_ts (Bottom_ref _ L _ (HAL.out _ bB9).1 (HAL.out _ bB9).2.2.1) HVz ?_
  intro wq10 bq
  have bB10 : Below w2.heap.size w2 wq10 := below_trans bB9 bq
  clear bq
  refine hK.out _ _ ?_ (fun hHeld => ?_)
  · exact HS _ bB10
  clear hK K
  try simp only [puts, gets]
  refine any_take (by kernel_rfl) (i := 44) (oi := _) (v := ?_) rfl rfl (by kernel_rfl) (by kernel_rfl) (by kernel_rfl) (fun _ _ _ h => h) (Or.inl ⟨by rfl, ?_⟩) hHeld ?_
  rotate_left
  · intro w' hSw; try dsimp only at hSw
    go_simp
    try with_reducible rfl
  try simp only [puts, gets]
  refine any_take (by kernel_rfl) (i := 45) (oi := _) (v := ?_) rfl rfl (by kernel_rfl) (by kernel_rfl) (by kernel_rfl) (fun _ _ _ h => h) (Or.inl ⟨by rfl, ?_⟩) hHeld ?_
  rotate_left
  · intro w' hSw; try dsimp only at hSw
    go_simp
    try with_reducible rfl
  try simp only [puts, gets]
  refine any_take (by kernel_rfl) (i := 46) (oi := _) (v := ?_) rfl rfl (by kernel_rfl) (by kernel_rfl) (by kernel_rfl) (fun _ _ _ h => h) (Or.inl ⟨by rfl, ?_⟩) hHeld ?_
  rotate_left
  · intro w' hSw; try dsimp only at hSw
    go_simp
    try with_reducible rfl
  try simp only [puts, gets]
  refine any_take (by kernel_rfl) (i := 47) (oi := _) (v := ?_) rfl rfl (by kernel_rfl) (by kernel_rfl) (by kernel_rfl) (fun _ _ _ h => h) (Or.inl ⟨by rfl, ?_⟩) hHeld ?_
  rotate_left
  · intro w' hSw; try dsimp only at hSw
    go_simp
    try with_reducible rfl
  try simp only [puts, gets]
  refine any_take (by kernel_rfl) (i := 49) (oi := _) (v := ?_) rfl rfl (by kernel_rfl) (by kernel_rfl) (by kernel_rfl) (fun _ _ _ h => h) (Or.inl ⟨by rfl, ?_⟩) hHeld ?_
  rotate_left
  · intro w' hSw; try dsimp only at hSw
    go_simp
    try with_reducible rfl
  try simp only [puts, gets]
  refine any_next (i := 48) (by kernel_rfl) rfl rfl (fun K hK => ?_)
  go_simp
  go_at_call 23
  refine IntsRet.ts (Irr_any _ L _ (HAL.out _ bB10).1 (HAL.out _ bB10).2.1) HIR ?_
  intro sa sc wq11 si bq
  have bB11 := below_trans bB10 bq
  have sb := bq
  clear bq
  refine hK.out _ _ ?_ (fun hHeld => ?_)
  · exact HS _ bB11
  clear hK K
  try simp only [puts, gets]
  refine any_next (i := 50) (by kernel_rfl) rfl rfl (fun K hK => ?_)
  go_simp
  go_at_call 24
  refine IntsRet.ts (Irr_ref _ L _ (HAL.out _ bB11).1 (HAL.out _ bB11).2.2.1) HIR ?_
  intro ta tc wq12 ti bq
  have bB12 := below_trans bB11 bq
  have tb := bq
  clear bq
  refine hK.out _ _ ?_ (fun hHeld => ?_)
  · exact HS _ bB12
  clear hK K
  try simp only [puts, gets]
  refine any_next (i := 51) (by kernel_rfl) rfl rfl (fun K hK => ?_)
  go_simp
  go_at_call 22
  refine val_ts (Ints_any _ _ ir ir _ (si.keep (keeps_below tb)) ti) HII ?_
  intro wq13 bq
  have bB13 := below_trans bB12 bq
  clear bq
  refine hK.out _ _ ?_ (fun hHeld => ?_)
  · exact HS _ bB13
  clear hK K
  try simp only [puts, gets]
  refine any_take (by kernel_rfl) (i := 52) (oi := _) (v := ?_) rfl rfl (by kernel_rfl) (by kernel_rfl) (by kernel_rfl) (fun _ _ _ h => h) (Or.inl ⟨by rfl, ?_⟩) hHeld ?_
  rotate_left
  · intro w' hSw; try dsimp only at hSw
    go_simp
    try with_reducible rfl
  try simp only [puts, gets]
  refine any_take (by kernel_rfl) (i := 53) (oi := _) (v := ?_) rfl rfl (by kernel_rfl) (by kernel_rfl) (by kernel_rfl) (fun _ _ _ h => h) (Or.inl ⟨by rfl, ?_⟩) hHeld ?_
  rotate_left
  · intro w' hSw; try dsimp only at hSw
    go_simp
    try with_reducible rfl
  try simp only [puts, gets]
  refine any_take (by kernel_rfl) (i := 54) (oi := _) (v := ?_) rfl rfl (by kernel_rfl) (by kernel_rfl) (by kernel_rfl) (fun _ _ _ h => h) (Or.inl ⟨by rfl, ?_⟩) hHeld ?_
  rotate_left
  · intro w' hSw; try dsimp only at hSw
    go_simp
    try with_reducible rfl
  try simp only [puts, gets]
  refine any_take (by kernel_rfl) (i := 55) (oi := _) (v := ?_) rfl rfl (by kernel_rfl) (by kernel_rfl) (by kernel_rfl) (fun _ _ _ h => h) (Or.inl ⟨by rfl, ?_⟩) hHeld ?_
  rotate_left
  · intro w' hSw; try dsimp only at hSw
    go_simp
    try with_reducible rfl
  try simp only [puts, gets]
  refine any_take (by kernel_rfl) (i := 57) (oi := _) (v := ?_) rfl rfl (by kernel_rfl) (by kernel_rfl) (by kernel_rfl) (fun _ _ _ h => h) (Or.inl ⟨by rfl, ?_⟩) hHeld ?_
  rotate_left
  · intro w' hSw; try dsimp only at hSw
    go_simp
    try with_reducible rfl
  try simp only [puts, gets]
  refine any_take (by kernel_rfl) (i := 58) (oi := _) (v := ?_) rfl rfl (by kernel_rfl) (by kernel_rfl) (by kernel_rfl) (fun _ _ _ h => h) (Or.inl ⟨by rfl, ?_⟩) hHeld ?_
  rotate_left
  · intro w' hSw; try dsimp only at hSw
    go_simp
    try with_reducible rfl
  try simp only [puts, gets]
  refine any_next (i := 56) (by kernel_rfl) rfl rfl (fun K hK => ?_)
  go_simp
  go_at_call 25
  refine val_ts (Mono_any _ L _ l _ (HAL.out _ bB13).1 (HAL.out _ bB13).2.2.2 (HAL.out _ bB13).2.1) HVq ?_
  intro wq14 bq
  have bB14 : Below w2.heap.size w2 wq14 := below_trans bB13 bq
  clear bq
  refine hK.out _ _ ?_ (fun hHeld => ?_)
  · exact HS _ bB14
  clear hK K
  try simp only [puts, gets]
  refine any_next (i := 59) (by kernel_rfl) rfl rfl (fun K hK => ?_)
  go_simp
  go_at_call 26
  refine val_ts (Mono_ref _ L _ l _ (HAL.out _ bB14).1 (HAL.out _ bB14).2.2.2 (HAL.out _ bB14).2.2.1) HVq ?_
  intro wq15 bq
  have bB15 : Below w2.heap.size w2 wq15 := below_trans bB14 bq
  clear bq
  refine hK.out _ _ ?_ (fun hHeld => ?_)
  · exact HS _ bB15
  clear hK K
  try simp only [puts, gets]
  refine any_take (by kernel_rfl) (i := 60) (oi := _) (v := ?_) rfl rfl (by kernel_rfl) (by kernel_rfl) (by kernel_rfl) (fun _ _ _ h => h) (Or.inl ⟨by rfl, ?_⟩) hHeld ?_
  rotate_left
  · intro w' hSw; try dsimp only at hSw
    go_simp
    try with_reducible rfl
  try simp only [puts, gets]
  refine any_take (by kernel_rfl) (i := 61) (oi := _) (v := ?_) rfl rfl (by kernel_rfl) (by kernel_rfl) (by kernel_rfl) (fun _ _ _ h => h) (Or.inl ⟨by rfl, ?_⟩) hHeld ?_
  rotate_left
  · intro w' hSw; try dsimp only at hSw
    go_simp
    try with_reducible rfl
  try simp only [puts, gets]
  refine any_take (by kernel_rfl) (i := 62) (oi := _) (v := ?_) rfl rfl (by kernel_rfl) (by kernel_rfl) (by kernel_rfl) (fun _ _ _ h => h) (Or.inl ⟨by rfl, ?_⟩) hHeld ?_
  rotate_left
  · intro w' hSw; try dsimp only at hSw
    go_simp
    try with_reducible rfl
  try simp only [puts, gets]
  refine any_done (by kernel_rfl) ?_ _
  refine NoPanic.normal ?_
  go_wp2
  go_ret
  exact ⟨rfl, below_trans b0 bB15⟩
end Go.Proofs.YtkjlflmcojmfgaaDoor
