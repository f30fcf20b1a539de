/- The law DiskReads. -/
import Derived.Test.YtcembocnkndlhaaUe
import Derived.Test.YtcembocnkndlhaaGet
namespace Go.Proofs.Ytcembocnkndlhaa
open Go.RowKit
theorem look_last (d : Dk) (k : Int) (l : List UInt8) (k2 : Int) : look ⟨d.pages, d.writes ++ [⟨k, l⟩], d.down⟩ k2 = if k = k2 then full l else look d k2 := by
  unfold look
  rw [List.reverse_append, List.reverse_singleton, List.singleton_append, List.find?_cons]
  by_cases e : k = k2
  · rw [if_pos e]; simp [e]
  · rw [if_neg e]; simp [e]
theorem full_full (l : List UInt8) : full (full l) = full l := by
  have := length_full l
  rw [full_rfull (by omega), rfull_self this]
theorem law4_facts {d : Dk} {k k2 : Int} {l : List UInt8} (hf : formed d = true) (hd : d.down = false) (h0 : 0 ≤ k) (h1 : k < 400) (h2 : 0 ≤ k2) (h3 : k2 < 400) (hl : l.length ≤ 64) : ∃ (f : Dk) (y : List UInt8), Hid (writeD d k l = (f, 0)) ∧ Hid (readD f k = (full l, 0)) ∧ Hid (readD f k2 = (y, 0)) ∧ Hid (k ≠ k2 → readD d k2 = (y, 0)) ∧ Hid (y.length = 64) := by
  have hff := formed_write (data := l) hf hd h0 h1
  refine ⟨_, look ⟨d.pages, d.writes ++ [⟨k, full l⟩], d.down⟩ k2, Lib.hid (writeD_ok hf hd h0 h1 hl), Lib.hid ?_, Lib.hid (readD_ok hff hd h2 h3), Lib.hid fun hne => ?_, Lib.hid (length_look _ _)⟩
  · rw [readD_ok hff hd h0 h1, look_last, if_pos rfl, full_full]
  · rw [readD_ok hf hd h2 h3, look_last, if_neg hne]
set_option maxHeartbeats 16000000 in
set_option maxRecDepth 100000 in
theorem law4_any (v : Value) (d : Dk) (a b : Int) (bv : Value) (l : List UInt8) (w : World) (h0 : IsDisk w v d) (ha : 0 ≤ a ∧ a < 65536) (hb : 0 ≤ b ∧ b < 65536) (t0 : IsBytes w bv l) : Calls Try.prog 4 #[v, .int .u16 a, .int .u16 b, bv] w fun e w' => e = .returned (.bool true) ∧ Below w.heap.size w w' := by
  obtain ⟨bpa, bpc, rfl, -, mb⟩ := id t0
  obtain ⟨pa0, pc0, wa0, wc0, rfl, -, -, m1, m2, m3⟩ := h0.shape
  obtain ⟨w1, hB0⟩ : ∃ x : World, x = w.alloc (.cells #[.slice pa0 d.pages.length pc0, .slice wa0 d.writes.length wc0, .bool d.down] 25) := ⟨_, rfl⟩
  have bp : _ ∧ _ := ⟨heap_alloc_new w (.cells #[.slice pa0 d.pages.length pc0, .slice wa0 d.writes.length wc0, .bool d.down] 25), below_new w (.cells #[.slice pa0 d.pages.length pc0, .slice wa0 d.writes.length wc0, .bool d.down] 25)⟩
  rw [← hB0] at bp
  obtain ⟨g0, bN⟩ := bp
  replace h0 := h0.keep bN
  replace t0 := t0.keep bN
  have b0 := bN
  clear bN
  go_enter Try.func4, Try.ntmps4
  go_wp2_with fail
  rw [← hB0]
  clear hB0
  refine (head_any _).mono ?_
  intro e w2 hres
  obtain ⟨rfl, bN⟩ := hres
  replace g0 := block_keep g0 bN
  replace h0 := h0.keep bN
  replace t0 := t0.keep bN
  replace b0 := below_trans b0 bN
  clear bN
  obtain ⟨y00, y01, y02, f00, f01, f02⟩ := Box3.of g0
  go_wp2_with fail
  refine (fine_any _ d _ h0).mono ?_
  rintro e w9 ⟨rfl, bN⟩
  clear y00 y01 y02 f00 f01 f02
  replace g0 := block_keep g0 bN
  replace h0 := h0.keep bN
  replace t0 := t0.keep bN
  replace b0 := below_trans b0 bN
  clear bN
  cases hfi : fineD d
  · go_wp2
    go_ret
    exact ⟨rfl, b0⟩
  by_cases hl64 : l.length ≤ 64
  case neg =>
    have hq : decide (64 < (l.length : Int)) = true := decide_eq_true (by omega)
    go_wp2
    go_ret
    exact ⟨rfl, b0⟩
  have hq : decide (64 < (l.length : Int)) = false := decide_eq_false (by omega)
  obtain ⟨hfm, hdn, hwl, -⟩ := fine_parts hfi
  obtain ⟨kk, hkk⟩ : ∃ kk : Int, kk = a % 400 := ⟨_, rfl⟩
  have hk0 : 0 ≤ kk := by omega
  have hk1 : kk < 400 := by omega
  obtain ⟨k2, hkk2⟩ : ∃ kk : Int, kk = b % 400 := ⟨_, rfl⟩
  have hk2 : 0 ≤ k2 := by omega
  have hk3 : k2 < 400 := by omega
  obtain ⟨f, y, HW4, HR4, HRf, HRd, HL4⟩ := law4_facts hfm hdn hk0 hk1 hk2 hk3 hl64
  have HKK := Lib.hid hkk
  have HKK2 := Lib.hid hkk2
  clear hfm hdn hkk hkk2 hfi
  go_upto_region 6 with fail
  rw [← HKK.out, ← HKK2.out]
  clear hq
  obtain ⟨y00, y01, y02, f00, f01, f02⟩ := Box3.of g0
  go_wp2_with fail
  refine (Write_any _ d kk _ l _ h0 t0 (by omega)).mono ?_
  intro e w10 hres
  obtain ⟨pa1, pc1, wa1, wc1, rfl, h1, bN⟩ := hres.to HW4
  clear y00 y01 y02 f00 f01 f02
  replace g0 := block_keep g0 bN
  replace h0 := h0.keep bN
  replace t0 := t0.keep bN
  replace b0 := below_trans b0 bN
  clear bN
  obtain ⟨w11, hB1⟩ : ∃ x : World, x = w10.alloc (.cells #[(.slice pa1 f.pages.length pc1), (.slice wa1 f.writes.length wc1), (.bool f.down)] 25) := ⟨_, rfl⟩
  have bp : _ ∧ _ := ⟨heap_alloc_new w10 (.cells #[(.slice pa1 f.pages.length pc1), (.slice wa1 f.writes.length wc1), (.bool f.down)] 25), below_new w10 (.cells #[(.slice pa1 f.pages.length pc1), (.slice wa1 f.writes.length wc1), (.bool f.down)] 25)⟩
  rw [← hB1] at bp
  obtain ⟨g1, bN⟩ := bp
  replace g0 := block_keep g0 bN
  replace h0 := h0.keep bN
  replace h1 := h1.keep bN
  replace t0 := t0.keep bN
  replace b0 := below_trans b0 bN
  clear bN
  go_upto_region 7 with fail
  rw [← hB1]
  clear hB1
  obtain ⟨y00, y01, y02, f00, f01, f02⟩ := Box3.of g1
  go_wp2_with fail
  refine page_ts h1 HR4 ?_
  intro pa2 pc2 w12 t2 bN
  clear y00 y01 y02 f00 f01 f02
  replace g0 := block_keep g0 bN
  replace g1 := block_keep g1 bN
  replace h0 := h0.keep bN
  replace h1 := h1.keep bN
  replace t0 := t0.keep bN
  replace b0 := below_trans b0 bN
  clear bN
  go_wp2_with fail
  refine rfull_tb t0 hl64 ?_
  intro pa3 pc3 w13 t3 bN
  replace g0 := block_keep g0 bN
  replace g1 := block_keep g1 bN
  replace h0 := h0.keep bN
  replace h1 := h1.keep bN
  replace t0 := t0.keep bN
  replace t2 := t2.keep bN
  replace b0 := below_trans b0 bN
  clear bN
  go_wp2_with fail
  refine sameb_ts t2 t3 (Lib.hid rfl) ?_
  intro w14 bN
  replace g0 := block_keep g0 bN
  replace g1 := block_keep g1 bN
  replace h0 := h0.keep bN
  replace h1 := h1.keep bN
  replace t0 := t0.keep bN
  replace t2 := t2.keep bN
  replace t3 := t3.keep bN
  replace b0 := below_trans b0 bN
  clear bN
  go_upto_region 9 with fail
  have hy : ((y.length : Int) == 64) = true := by rw [HL4.out]; rfl
  clear HL4
  have hS := trivial
  by_cases hne : kk = k2
  · have e2 : (kk == k2) = true := by rw [hne]; simp
    have HNE := Lib.hid hne
    clear hne
    have HS : ∀ w', Below w14.heap.size w14 w' → (fun w' => w'.cell? ⟨w10.heap.size, 0, none⟩ = some (.slice pa1 f.pages.length pc1) ∧ w'.cell? ⟨w10.heap.size, 1, none⟩ = some (.slice wa1 f.writes.length wc1) ∧ w'.cell? ⟨w10.heap.size, 2, none⟩ = some (.bool f.down)) w' := fun w' hb => ⟨(Box3.of (block_keep g1 hb)).c0, (Box3.of (block_keep g1 hb)).c1, (Box3.of (block_keep g1 hb)).c2⟩
    refine wp_region_noPanic ?_
    refine wp_region_late (fun w' => w'.cell? ⟨w10.heap.size, 0, none⟩ = some (.slice pa1 f.pages.length pc1) ∧ w'.cell? ⟨w10.heap.size, 1, none⟩ = some (.slice wa1 f.writes.length wc1) ∧ w'.cell? ⟨w10.heap.size, 2, none⟩ = some (.bool f.down)) 23 (by kernel_rfl) (HS _ (below_drew' (Below.refl _ _))) (fun hHeld => ?_)
    refine any_take (by kernel_rfl) (i := 0) (oi := _) (v := ?_) rfl rfl (by kernel_rfl) (by kernel_rfl) (by kernel_rfl) (fun _ _ _ h => h) (Or.inl ⟨by rfl, ?_⟩) hHeld ?_
    rotate_left
    · intro w' hSw; try dsimp only at hSw
      go_simp
      try with_reducible rfl
    try simp only [puts, gets]
    refine any_take (by kernel_rfl) (i := 1) (oi := _) (v := ?_) rfl rfl (by kernel_rfl) (by kernel_rfl) (by kernel_rfl) (fun _ _ _ h => h) (Or.inl ⟨by rfl, ?_⟩) hHeld ?_
    rotate_left
    · intro w' hSw; try dsimp only at hSw
      go_simp
      try with_reducible rfl
    try simp only [puts, gets]
    refine any_take (by kernel_rfl) (i := 2) (oi := _) (v := ?_) rfl rfl (by kernel_rfl) (by kernel_rfl) (by kernel_rfl) (fun _ _ _ h => h) (Or.inl ⟨by rfl, ?_⟩) hHeld ?_
    rotate_left
    · intro w' hSw; try dsimp only at hSw
      go_simp
      try with_reducible rfl
    try simp only [puts, gets]
    refine any_take (by kernel_rfl) (i := 3) (oi := _) (v := ?_) rfl rfl (by kernel_rfl) (by kernel_rfl) (by kernel_rfl) (fun _ _ _ h => h) (Or.inl ⟨by rfl, ?_⟩) hHeld ?_
    rotate_left
    · intro w' hSw; try dsimp only at hSw
      go_simp
      try with_reducible rfl
    try simp only [puts, gets]
    refine any_take (by kernel_rfl) (i := 4) (oi := _) (v := ?_) rfl rfl (by kernel_rfl) (by kernel_rfl) (by kernel_rfl) (fun _ _ _ h => h) (Or.inl ⟨by rfl, ?_⟩) hHeld ?_
    rotate_left
    · intro w' hSw; try dsimp only at hSw
      go_simp
      try with_reducible rfl
    try simp only [puts, gets]
    refine any_take (by kernel_rfl) (i := 5) (oi := _) (v := ?_) rfl rfl (by kernel_rfl) (by kernel_rfl) (by kernel_rfl) (fun _ _ _ h => h) (Or.inl ⟨by rfl, ?_⟩) hHeld ?_
    rotate_left
    · intro w' hSw; try dsimp only at hSw
      go_simp
      try with_reducible rfl
    try simp only [puts, gets]
    refine any_take (by kernel_rfl) (i := 6) (oi := _) (v := undef) rfl rfl (by kernel_rfl) (by kernel_rfl) (by kernel_rfl) (fun _ _ _ h => h) (Or.inr ⟨by rfl, rfl⟩) hHeld ?_
    try simp only [puts, gets]
    refine any_take (by kernel_rfl) (i := 7) (oi := _) (v := undef) rfl rfl (by kernel_rfl) (by kernel_rfl) (by kernel_rfl) (fun _ _ _ h => h) (Or.inr ⟨by rfl, rfl⟩) hHeld ?_
    try simp only [puts, gets]
    refine any_take (by kernel_rfl) (i := 9) (oi := _) (v := undef) rfl rfl (by kernel_rfl) (by kernel_rfl) (by kernel_rfl) (fun _ _ _ h => h) (Or.inr ⟨by rfl, rfl⟩) hHeld ?_
    try simp only [puts, gets]
    refine any_take (by kernel_rfl) (i := 10) (oi := _) (v := undef) rfl rfl (by kernel_rfl) (by kernel_rfl) (by kernel_rfl) (fun _ _ _ h => h) (Or.inr ⟨by rfl, rfl⟩) hHeld ?_
    try simp only [puts, gets]
    refine any_take (by kernel_rfl) (i := 8) (oi := _) (v := undef) rfl rfl (by kernel_rfl) (by kernel_rfl) (by kernel_rfl) (fun _ _ _ h => h) (Or.inr ⟨by rfl, rfl⟩) hHeld ?_
    try simp only [puts, gets]
    refine any_take (by kernel_rfl) (i := 11) (oi := _) (v := undef) rfl rfl (by kernel_rfl) (by kernel_rfl) (by kernel_rfl) (fun _ _ _ h => h) (Or.inr ⟨by rfl, rfl⟩) hHeld ?_
    try simp only [puts, gets]
    refine any_take (by kernel_rfl) (i := 12) (oi := _) (v := undef) rfl rfl (by kernel_rfl) (by kernel_rfl) (by kernel_rfl) (fun _ _ _ h => h) (Or.inr ⟨by rfl, rfl⟩) hHeld ?_
    try simp only [puts, gets]
    refine any_take (by kernel_rfl) (i := 13) (oi := _) (v := ?_) rfl rfl (by kernel_rfl) (by kernel_rfl) (by kernel_rfl) (fun _ _ _ h => h) (Or.inl ⟨by rfl, ?_⟩) hHeld ?_
    rotate_left
    · intro w' hSw; try dsimp only at hSw
      go_simp
      try with_reducible rfl
    try simp only [puts, gets]
    refine any_take (by kernel_rfl) (i := 14) (oi := _) (v := ?_) rfl rfl (by kernel_rfl) (by kernel_rfl) (by kernel_rfl) (fun _ _ _ h => h) (Or.inl ⟨by rfl, ?_⟩) hHeld ?_
    rotate_left
    · intro w' hSw; try dsimp only at hSw
      go_simp
      try with_reducible rfl
    try simp only [puts, gets]
    refine any_take (by kernel_rfl) (i := 15) (oi := _) (v := ?_) rfl rfl (by kernel_rfl) (by kernel_rfl) (by kernel_rfl) (fun _ _ _ h => h) (Or.inl ⟨by rfl, ?_⟩) hHeld ?_
    rotate_left
    · intro w' hSw; try dsimp only at hSw
      go_simp
      try with_reducible rfl
    try simp only [puts, gets]
    refine any_take (by kernel_rfl) (i := 16) (oi := _) (v := ?_) rfl rfl (by kernel_rfl) (by kernel_rfl) (by kernel_rfl) (fun _ _ _ h => h) (Or.inl ⟨by rfl, ?_⟩) hHeld ?_
    rotate_left
    · intro w' hSw; try dsimp only at hSw
      go_simp
      try with_reducible rfl
    try simp only [puts, gets]
    refine any_take (by kernel_rfl) (i := 17) (oi := _) (v := ?_) rfl rfl (by kernel_rfl) (by kernel_rfl) (by kernel_rfl) (fun _ _ _ h => h) (Or.inl ⟨by rfl, ?_⟩) hHeld ?_
    rotate_left
    · intro w' hSw; try dsimp only at hSw
      go_simp
      try with_reducible rfl
    try simp only [puts, gets]
    refine any_next (i := 18) (by kernel_rfl) rfl rfl (fun K hK => ?_)
    go_simp
    go_at_call 34
    refine page_ts (d := f) (IsDisk.keep h1 (below_drew' (Below.refl _ _))) HRf ?_
    intro pa5 pc5 w5 t5 b5
    have b5 : Below w14.heap.size w14 w5 := below_undrew b5
    refine hK.out _ _ ?_ (fun hHeld => ?_)
    · exact HS _ b5
    clear hK K
    try simp only [puts, gets]
    refine any_take (by kernel_rfl) (i := 19) (oi := _) (v := ?_) rfl rfl (by kernel_rfl) (by kernel_rfl) (by kernel_rfl) (fun _ _ _ h => h) (Or.inl ⟨by rfl, ?_⟩) hHeld ?_
    rotate_left
    · intro w' hSw; try dsimp only at hSw
      go_simp
      try with_reducible rfl
    try simp only [puts, gets]
    refine any_take (by kernel_rfl) (i := 20) (oi := _) (v := ?_) rfl rfl (by kernel_rfl) (by kernel_rfl) (by kernel_rfl) (fun _ _ _ h => h) (Or.inl ⟨by rfl, ?_⟩) hHeld ?_
    rotate_left
    · intro w' hSw; try dsimp only at hSw
      go_simp
      try with_reducible rfl
    try simp only [puts, gets]
    refine any_take (by kernel_rfl) (i := 21) (oi := _) (v := ?_) rfl rfl (by kernel_rfl) (by kernel_rfl) (by kernel_rfl) (fun _ _ _ h => h) (Or.inl ⟨by rfl, ?_⟩) hHeld ?_
    rotate_left
    · intro w' hSw; try dsimp only at hSw
      go_simp
      try with_reducible rfl
    try simp only [puts, gets]
    refine any_take (by kernel_rfl) (i := 22) (oi := _) (v := ?_) rfl rfl (by kernel_rfl) (by kernel_rfl) (by kernel_rfl) (fun _ _ _ h => h) (Or.inl ⟨by rfl, ?_⟩) hHeld ?_
    rotate_left
    · intro w' hSw; try dsimp only at hSw
      go_simp
      try with_reducible rfl
    try simp only [puts, gets]
    refine any_done (by kernel_rfl) ?_ _
    refine NoPanic.normal ?_
    go_wp2
    go_ret
    exact ⟨rfl, below_trans b0 b5⟩
  · have e2 : (kk == k2) = false := by simp [hne]
    have HRd2 := Lib.hid (HRd.out hne)
    have HNE := Lib.hid hne
    clear hne
    have HS : ∀ w', Below w14.heap.size w14 w' → w'.cell? ⟨w10.heap.size, 0, none⟩ = some (.slice pa1 f.pages.length pc1) ∧ w'.cell? ⟨w10.heap.size, 1, none⟩ = some (.slice wa1 f.writes.length wc1) ∧ w'.cell? ⟨w10.heap.size, 2, none⟩ = some (.bool f.down) ∧ w'.cell? ⟨w.heap.size, 0, none⟩ = some (.slice pa0 d.pages.length pc0) ∧ w'.cell? ⟨w.heap.size, 1, none⟩ = some (.slice wa0 d.writes.length wc0) ∧ w'.cell? ⟨w.heap.size, 2, none⟩ = some (.bool d.down) := fun w' hb => ⟨(Box3.of (block_keep g1 hb)).c0, (Box3.of (block_keep g1 hb)).c1, (Box3.of (block_keep g1 hb)).c2, (Box3.of (block_keep g0 hb)).c0, (Box3.of (block_keep g0 hb)).c1, (Box3.of (block_keep g0 hb)).c2⟩
    go_region_held3 (fun w' => w'.cell? ⟨w10.heap.size, 0, none⟩ = some (.slice pa1 f.pages.length pc1) ∧ w'.cell? ⟨w10.heap.size, 1, none⟩ = some (.slice wa1 f.writes.length wc1) ∧ w'.cell? ⟨w10.heap.size, 2, none⟩ = some (.bool f.down) ∧ w'.cell? ⟨w.heap.size, 0, none⟩ = some (.slice pa0 d.pages.length pc0) ∧ w'.cell? ⟨w.heap.size, 1, none⟩ = some (.slice wa0 d.writes.length wc0) ∧ w'.cell? ⟨w.heap.size, 2, none⟩ = some (.bool d.down))
      (first | exact HS _ (by with_reducible (repeat (first | assumption | exact Below.refl _ _ | refine below_alloc' ?_ | refine below_drew' ?_ | refine below_step (by assumption) ?_))))
      (first
        | (go_at_call 34; refine page_ts (d := f) (IsDisk.keep h1 (by with_reducible (repeat (first | assumption | exact Below.refl _ _ | refine below_alloc' ?_ | refine below_drew' ?_ | refine below_step (by assumption) ?_)))) HRf ?_; intro pa5 pc5 w5 t5 b5)
        | (go_at_call 34; refine page_ts (d := d) (IsDisk.keep h0 (by with_reducible (repeat (first | assumption | exact Below.refl _ _ | refine below_alloc' ?_ | refine below_drew' ?_ | refine below_step (by assumption) ?_)))) HRd2 ?_; intro pa6 pc6 w6 t6 b6)
        | (go_at_call 26; refine sameb_ts (IsBytes.keep t5 (by with_reducible (repeat (first | assumption | exact Below.refl _ _ | refine below_alloc' ?_ | refine below_drew' ?_ | refine below_step (by assumption) ?_)))) (IsBytes.keep t6 (by with_reducible (repeat (first | assumption | exact Below.refl _ _ | refine below_alloc' ?_ | refine below_drew' ?_ | refine below_step (by assumption) ?_)))) (Lib.hid rfl) ?_; intro w7 b7))
    all_goals
      go_wp2
      go_ret
      exact ⟨rfl, below_trans b0 (by with_reducible (repeat (first | assumption | exact Below.refl _ _ | refine below_alloc' ?_ | refine below_drew' ?_ | refine below_step (by assumption) ?_)))⟩
end Go.Proofs.Ytcembocnkndlhaa
