/- The law LatticeNames. -/
import Derived.Test.YtkjlflmcojmfgaaDoorPair
import Derived.Test.YtkjlflmcojmfgaaDoorNam
import Derived.Test.YtkjlflmcojmfgaaDoorL6
namespace Go.Proofs.YtkjlflmcojmfgaaDoor
open Go.RowKit
theorem check_ts {v : Value} {L : Ltc} {w : World} {c : Int} {Q : Ending → World → Prop} (h : IsLtc w v L ∧ KeysAt w 0) (hc : Hid (checkL L = c)) (k : ∀ w', Below w.heap.size w w' → Q (.returned (.int .i64 c)) w') : Calls Tryd.prog 12 #[v] w Q :=
  (Check_any _ L _ h.1 h.2).mono fun e w' ⟨he, hb⟩ => by subst he; rw [hc.out]; exact k w' hb
theorem wrap_nat {s : Nat} (h : s < 9223372036854775808) : IntKind.i64.wrap (s : Int) = (s : Int) := by rw [IntKind.wrap_i64]; omega
theorem covers_lit {w : World} {g : Nat} {x y : Int} (h : w.heap[g]? = some (.cells #[.int .i64 x, .int .i64 y] 39 (0, 0))) : IsCovers w (.slice (some ⟨g, 0, none⟩) 1 1) [(x, y)] := by
  refine ⟨_, _, rfl, .inr ⟨g, 0, rfl, fun i c hi j u hj => ?_⟩, by simp, by simp, by simp⟩
  have hi0 : i = 0 := by have := (List.getElem?_eq_some_iff.1 hi).1; simpa using this
  subst hi0
  simp at hi; subst hi
  unfold encC at hj
  rcases j with _ | _ | j
  · simp at hj; subst hj; exact cell_at h rfl
  · simp at hj; subst hj; exact cell_at h rfl
  · simp at hj
theorem box_set {w : World} {g : Nat} {a b c d : Value} {t : TypeId} (h : w.heap[g]? = some (.cells #[a, b, c, d] t (0, 0))) (x : Value) : (w.setCell ⟨g, 2, none⟩ x).heap[g]? = some (.cells #[a, b, x, d] t (0, 0)) := heap_setCell_same w g 2 _ t x h
theorem box_set1 {w : World} {g : Nat} {a b c d : Value} {t : TypeId} (h : w.heap[g]? = some (.cells #[a, b, c, d] t (0, 0))) (x : Value) : (w.setCell ⟨g, 1, none⟩ x).heap[g]? = some (.cells #[a, x, c, d] t (0, 0)) := heap_setCell_same w g 1 _ t x h
theorem IsLtc.parts {w : World} {s ev cv a : Value} {L : Ltc} (h : IsLtc w (.agg #[s, ev, cv, a]) L) : IsNames w ev L.elems ∧ IsCovers w cv L.covers := by
  obtain ⟨ev', cv', e, h1, h2⟩ := h
  simp at e
  obtain ⟨-, rfl, rfl, -⟩ := e
  exact ⟨h1, h2⟩
theorem cell_below {B : Nat} {w w' : World} {p : Addr} {x : Value} (hb : Below B w w') (h : w.cell? p = some x) (hp : p.block < B) : w'.cell? p = some x := (hb.cell hp).trans h
theorem own_pos {w : World} {base : Nat} {e : TypeId} {size n : Nat} {v : Value} {xs : List Value} (h : w.ownsRow base e size v n xs) (hn : 0 < n) : ∃ g c, v = .slice (some ⟨g, 0, none⟩) n c ∧ base ≤ g ∧ g < w.heap.size := by
  rcases h.2 with ⟨_, h0⟩ | ⟨g, cap, cur, rfl, hg, hb, _⟩
  · omega
  · exact ⟨g, cap, rfl, hg, (Array.getElem?_eq_some_iff.1 hb).1⟩
theorem block_drew {w : World} {g : Nat} {o : Obj} (h : w.heap[g]? = some o) : w.drew.heap[g]? = some o := h
set_option maxHeartbeats 32000000 in
set_option maxRecDepth 100000 in
theorem law9_any (v : Value) (L : Ltc) (xi : Int) (w : World) (h : IsLtc w v L) (hx : 0 ≤ xi ∧ xi < 256) (hK : KeysAt w 0) : Calls Tryd.prog 9 #[v, .int .u8 xi] w fun e w' => e = .returned (.bool true) ∧ Below w.heap.size w w' := by
  obtain ⟨hx1, hx2⟩ := hx
  obtain ⟨x, rfl⟩ := Int.eq_ofNat_of_zero_le hx1
  have h0 := h
  obtain ⟨ea, ec, ca, cc, rfl, -, -, m1, m2, m3⟩ := h.shape
  have g0 := heap_alloc_new w (.cells #[.string L.name.1, .slice ea L.elems.length ec, .slice ca L.covers.length cc, .int .i64 L.at_] 25)
  have b0 := below_new w (.cells #[.string L.name.1, .slice ea L.elems.length ec, .slice ca L.covers.length cc, .int .i64 L.at_] 25)
  obtain ⟨wb, hwb⟩ : ∃ x : World, x = w.alloc (.cells #[.string L.name.1, .slice ea L.elems.length ec, .slice ca L.covers.length cc, .int .i64 L.at_] 25) := ⟨_, rfl⟩
  rw [← hwb] at g0 b0
  obtain ⟨y0, y1, y2, y3⟩ := Box4.of g0
  go_enter Tryd.func9, Tryd.ntmps9
  go_wp2_with fail
  rw [← hwb]
  clear hwb y0 y1 y2 y3
  refine (head_any _ (hK.keep (keeps_below b0))).mono ?_
  rintro e w1 ⟨rfl, bN⟩
  replace g0 := block_keep g0 bN
  replace b0 := below_trans b0 bN
  clear bN
  obtain ⟨y0, y1, y2, y3⟩ := Box4.of g0
  go_wp2_with fail
  refine (Small_any _ L _ (h0.keep (keeps_below b0))).mono ?_
  rintro e wB ⟨rfl, bN⟩
  replace g0 := block_keep g0 bN
  replace b0 := below_trans b0 bN
  clear bN y0 y1 y2 y3
  obtain ⟨y0, y1, y2, y3⟩ := Box4.of g0
  cases hsm : smallL L
  · go_wp2
    go_ret
    exact ⟨rfl, b0⟩
  have hn20 : L.elems.length ≤ 20 := by unfold smallL at hsm; simp only [Bool.and_eq_true, decide_eq_true_eq] at hsm; exact hsm.1.1.2
  have hc200 : L.covers.length ≤ 200 := by unfold smallL at hsm; simp only [Bool.and_eq_true, decide_eq_true_eq] at hsm; exact hsm.1.2
  clear hsm
  by_cases he : L.elems.length = 0
  · have hE0 : ((L.elems.length : Int) == 0) = true := by rw [he]; rfl
    have hE1 : (L.elems.length == 0) = true := by rw [he]; rfl
    go_wp2
    go_ret
    exact ⟨rfl, b0⟩
  have hE0 : ((L.elems.length : Int) == 0) = false := beq_eq_false_iff_ne.2 (by omega)
  have hE1 : (L.elems.length == 0) = false := beq_eq_false_iff_ne.2 (by omega)
  have hE2 : (L.elems = []) = False := eq_false (by rintro h; rw [h] at he; exact he rfl)
  have hn1 : 1 ≤ L.elems.length := by omega
  clear he
  have hNE : IsNames w (.slice ea L.elems.length ec) L.elems := (h0.parts).1
  have hCO : IsCovers w (.slice ca L.covers.length cc) L.covers := (h0.parts).2
  go_upto_region 5 with fail
  clear y0 y1 y2 y3
  have g6 := heap_alloc_new wB (.cells #[.string L.name.1, .slice ea L.elems.length ec, .slice ca L.covers.length cc, .int .i64 L.at_] 25)
  have bA := below_new wB (.cells #[.string L.name.1, .slice ea L.elems.length ec, .slice ca L.covers.length cc, .int .i64 L.at_] 25)
  have hszA : (wB.alloc (.cells #[.string L.name.1, .slice ea L.elems.length ec, .slice ca L.covers.length cc, .int .i64 L.at_] 25)).heap.size = wB.heap.size + 1 := by simp
  obtain ⟨wA, hwA⟩ : ∃ x : World, x = wB.alloc (.cells #[.string L.name.1, .slice ea L.elems.length ec, .slice ca L.covers.length cc, .int .i64 L.at_] 25) := ⟨_, rfl⟩
  rw [← hwA] at g6 bA hszA
  rw [← hwA]
  clear hwA
  have HSZA := Lib.hid hszA
  clear hszA
  have hsA : wB.heap.size + 1 ≤ wA.heap.size := by rw [HSZA.out]; exact Nat.le_refl _
  have o1 := OwnC.lit wA
  have bA2 := below_new wA (.cells #[] 39)
  obtain ⟨y0, y1, y2, y3⟩ := Box4.of (block_keep g0 (below_trans bA bA2))
  obtain ⟨z0, z1, z2, z3⟩ := Box4.of (block_keep g6 bA2)
  have fz := free_at (j := 2) (block_keep g6 bA2)
  have hc1 : L.covers.length ≤ 1000000 := by omega
  go_upto_region 6 with (at_builtin; refine wpList_catC (wr := wA.alloc (.cells #[] 39)) (l := []) (m := L.covers) rfl (.tmp 26) (.tmp 28) rfl rfl rfl o1 (Below.refl _ _) (hCO.keep (keeps_below (below_trans b0 (below_trans bA bA2)))) (Nat.le_of_lt (by simp)) (by simp) hc1 ?_; intro v6 c6 w8 hO8 b8; have g68 : w8.heap[wB.heap.size]? = some _ := (b8.block _ (by omega)).trans (block_keep g6 bA2); have fz8 := free_at (j := 2) g68; have gz8 := (Box4.of g68).c2; simp only [List.nil_append] at hO8 ⊢)
  obtain ⟨wC, hwC⟩ : ∃ x : World, x = w8.setCell ⟨wB.heap.size, 2, none⟩ (.slice v6 L.covers.length c6) := ⟨_, rfl⟩
  rw [← hwC]
  have gC := box_set g68 (.slice v6 L.covers.length c6)
  have oC := hO8.set (p := ⟨wB.heap.size, 2, none⟩) (by show wB.heap.size < wA.heap.size; omega) (.slice v6 L.covers.length c6)
  have bC := ((below_trans bA bA2).trans (b8.mono (by omega))).setCell (p := ⟨wB.heap.size, 2, none⟩) (Nat.le_refl _) (.slice v6 L.covers.length c6)
  rw [← hwC] at gC oC bC
  clear hwC fz fz8 gz8 g68 y0 y1 y2 y3 z0 z1 z2 z3 bA2 o1 hO8 b8 g6
  have e0 : L.covers ++ L.covers.reverse.take 0 = L.covers := by simp
  rw [← e0] at oC gC
  clear e0
  have hwB : w.heap.size < wB.heap.size := block_lt g0
  go_wp2
  go_loopw [7] (fun i wr => ∃ (k : Nat) (pa : Option Addr) (pc : Nat), k ≤ L.covers.length ∧ i = .int .i64 k ∧ wr.heap[wB.heap.size]? = some (.cells #[.string L.name.1, .slice ea L.elems.length ec, .slice pa (L.covers ++ L.covers.reverse.take k).length pc, .int .i64 L.at_] 25 (0, 0)) ∧ OwnC wr wA.heap.size (.slice pa (L.covers ++ L.covers.reverse.take k).length pc) (L.covers ++ L.covers.reverse.take k) ∧ Below wB.heap.size wB wr) (fun i _ => L.covers.length - (intOf i).toNat)
  case atStart => exact ⟨0, v6, c6, Nat.zero_le _, rfl, gC, oC, bC⟩
  case round =>
    clear gC oC bC
    obtain ⟨k, pa, pc, hk, rfl, gR, hO, bR⟩ := hrel
    obtain ⟨wo, rfl⟩ : ∃ wo : World, wo = wr := ⟨_, rfl⟩
    have hml := more_len L hk
    by_cases hlt : k < L.covers.length
    · have hdk : decide (k < L.covers.length) = true := decide_eq_true hlt
      have HMS := Lib.hid (more_succ hlt)
      have hlr : L.covers.length - 1 - k < L.covers.length := by omega
      obtain ⟨b1, of1, hce, hd1, hd2⟩ := hCO.at_ (List.getElem?_eq_getElem hlr)
      cases hce
      obtain ⟨M, HM⟩ : ∃ M, Hid ((L.covers ++ L.covers.reverse.take k) = M) := ⟨_, Lib.hid rfl⟩
      rw [HM.out] at HMS gR hO hml
      have hML : M.length ≤ 1000000 := by omega
      clear hml
      generalize L.covers[L.covers.length - 1 - k] = c at *
      obtain ⟨c1, c2⟩ := c
      obtain ⟨s, hs⟩ : ∃ s, L.covers.length - 1 = s := ⟨_, rfl⟩
      rw [hs] at hlr hd1 hd2
      obtain ⟨r, hr⟩ : ∃ r, s - k = r := ⟨_, rfl⟩
      rw [hr] at hlr hd1 hd2
      have hsI : (L.covers.length : Int) - 1 = (s : Int) := by omega
      have hrI : (s : Int) - (k : Int) = (r : Int) := by omega
      have hr0 : (0 : Int) ≤ (r : Int) := by omega
      have hrl : (r : Int) < (L.covers.length : Int) := by omega
      clear hr hs
      have hws := wrap_nat (s := s) (by omega)
      have hwr := wrap_nat (s := r) (by omega)
      have hszr : wA.heap.size ≤ wo.heap.size := by have := bR.size; exact Nat.le_trans (Nat.le_of_eq HSZA.out) (Nat.succ_le_of_lt (block_lt gR))
      have hbl1 := cell_lt hd1
      have hbl2 := cell_lt hd2
      have hd1o := cell_keep (below_trans b0 bR) hd1
      have hd2o := cell_keep (below_trans b0 bR) hd2
      have g0o := block_keep g0 bR
      have HS1 : ∀ W, Below wA.heap.size wo W → (fun w' => w'.cell? ⟨wB.heap.size, 2, none⟩ = some (.slice pa M.length pc) ∧ w'.cell? ⟨w.heap.size, 2, none⟩ = some (.slice (some ⟨b1, of1, none⟩) L.covers.length cc) ∧ w'.cell? ⟨b1, of1 + r * 2, none⟩ = some (.int .i64 c1) ∧ w'.cell? ⟨b1, of1 + r * 2 + 1, none⟩ = some (.int .i64 c2)) W := fun W hW => ⟨cell_below hW (Box4.of gR).c2 (show wB.heap.size < _ by omega), cell_below hW (Box4.of g0o).c2 (show w.heap.size < _ by omega), cell_below hW hd1o (Nat.lt_of_lt_of_le hbl1 (by omega)), cell_below hW hd2o (Nat.lt_of_lt_of_le hbl2 (by omega))⟩
      clear hd1o hd2o
      obtain ⟨y0, y1, y2, y3⟩ := Box4.of g0o
      go_upto_region 9 with fail
      clear y0 y1 y2 y3
      refine wp_region_noPanic ?_
      refine wp_region_late (fun w' => w'.cell? ⟨wB.heap.size, 2, none⟩ = some (.slice pa M.length pc) ∧ w'.cell? ⟨w.heap.size, 2, none⟩ = some (.slice (some ⟨b1, of1, none⟩) L.covers.length cc) ∧ w'.cell? ⟨b1, of1 + r * 2, none⟩ = some (.int .i64 c1) ∧ w'.cell? ⟨b1, of1 + r * 2 + 1, none⟩ = some (.int .i64 c2)) 15 (by kernel_rfl) (HS1 _ (below_drew' (Below.refl _ _))) (fun hHeld => ?_)
      refine any_take (by kernel_rfl) (i := 0) (oi := _) (v := ?_) rfl rfl (by kernel_rfl) (by kernel_rfl) (by kernel_rfl) (fun _ _ _ h => h) (Or.inl ⟨by rfl, ?_⟩) hHeld ?_
      rotate_left
      · intro w' hSw; try dsimp only at hSw
        go_simp
        try with_reducible rfl
      try simp only [puts, gets]
      refine any_take (by kernel_rfl) (i := 1) (oi := _) (v := ?_) rfl rfl (by kernel_rfl) (by kernel_rfl) (by kernel_rfl) (fun _ _ _ h => h) (Or.inl ⟨by rfl, ?_⟩) hHeld ?_
      rotate_left
      · intro w' hSw; try dsimp only at hSw
        go_simp
        try with_reducible rfl
      try simp only [puts, gets]
      refine any_take (by kernel_rfl) (i := 2) (oi := _) (v := ?_) rfl rfl (by kernel_rfl) (by kernel_rfl) (by kernel_rfl) (fun _ _ _ h => h) (Or.inl ⟨by rfl, ?_⟩) hHeld ?_
      rotate_left
      · intro w' hSw; try dsimp only at hSw
        go_simp
        try with_reducible rfl
      try simp only [puts, gets]
      refine any_take (by kernel_rfl) (i := 3) (oi := _) (v := ?_) rfl rfl (by kernel_rfl) (by kernel_rfl) (by kernel_rfl) (fun _ _ _ h => h) (Or.inl ⟨by rfl, ?_⟩) hHeld ?_
      rotate_left
      · intro w' hSw; try dsimp only at hSw
        go_simp
        try with_reducible rfl
      try simp only [puts, gets]
      refine any_take (by kernel_rfl) (i := 4) (oi := _) (v := ?_) rfl rfl (by kernel_rfl) (by kernel_rfl) (by kernel_rfl) (fun _ _ _ h => h) (Or.inl ⟨by rfl, ?_⟩) hHeld ?_
      rotate_left
      · intro w' hSw; try dsimp only at hSw
        go_simp
        try with_reducible rfl
      try simp only [puts, gets]
      refine any_take (by kernel_rfl) (i := 5) (oi := _) (v := ?_) rfl rfl (by kernel_rfl) (by kernel_rfl) (by kernel_rfl) (fun _ _ _ h => h) (Or.inl ⟨by rfl, ?_⟩) hHeld ?_
      rotate_left
      · intro w' hSw; try dsimp only at hSw
        go_simp
        try with_reducible rfl
      try simp only [puts, gets]
      refine any_take (by kernel_rfl) (i := 6) (oi := _) (v := ?_) rfl rfl (by kernel_rfl) (by kernel_rfl) (by kernel_rfl) (fun _ _ _ h => h) (Or.inl ⟨by rfl, ?_⟩) hHeld ?_
      rotate_left
      · intro w' hSw; try dsimp only at hSw
        go_simp
        try with_reducible rfl
      try simp only [puts, gets]
      refine any_take (by kernel_rfl) (i := 7) (oi := _) (v := ?_) rfl rfl (by kernel_rfl) (by kernel_rfl) (by kernel_rfl) (fun _ _ _ h => h) (Or.inl ⟨by rfl, ?_⟩) hHeld ?_
      rotate_left
      · intro w' hSw; try dsimp only at hSw
        go_simp
        try with_reducible rfl
      try simp only [puts, gets]
      refine any_take (by kernel_rfl) (i := 8) (oi := _) (v := ?_) rfl rfl (by kernel_rfl) (by kernel_rfl) (by kernel_rfl) (fun _ _ _ h => h) (Or.inl ⟨by rfl, ?_⟩) hHeld ?_
      rotate_left
      · intro w' hSw; try dsimp only at hSw
        go_simp
        try with_reducible rfl
      try simp only [puts, gets]
      refine any_take (by kernel_rfl) (i := 9) (oi := _) (v := ?_) rfl rfl (by kernel_rfl) (by kernel_rfl) (by kernel_rfl) (fun _ _ _ h => h) (Or.inl ⟨by rfl, ?_⟩) hHeld ?_
      rotate_left
      · intro w' hSw; try dsimp only at hSw
        go_simp
        try with_reducible rfl
      try simp only [puts, gets]
      refine any_take (by kernel_rfl) (i := 10) (oi := _) (v := ?_) rfl rfl (by kernel_rfl) (by kernel_rfl) (by kernel_rfl) (fun _ _ _ h => h) (Or.inl ⟨by rfl, ?_⟩) hHeld ?_
      rotate_left
      · intro w' hSw; try dsimp only at hSw
        go_simp
        try with_reducible rfl
      try simp only [puts, gets]
      refine any_take (by kernel_rfl) (i := 11) (oi := _) (v := ?_) rfl rfl (by kernel_rfl) (by kernel_rfl) (by kernel_rfl) (fun _ _ _ h => h) (Or.inl ⟨by rfl, ?_⟩) hHeld ?_
      rotate_left
      · intro w' hSw; try dsimp only at hSw
        go_simp
        try with_reducible rfl
      try simp only [puts, gets]
      refine any_next (i := 12) (by kernel_rfl) rfl rfl (fun K hK => ?_)
      go_simp
      refine hK.out _ _ ?_ (fun hHeld => ?_)
      · first | exact HS1 _ (((Below.refl _ _).drew).alloc hszr _) | exact HS1 _ (((Below.refl _ _).alloc hszr _).drew)
      clear hK K
      try simp only [puts, gets]
      refine any_next (i := 13) (by kernel_rfl) rfl rfl (fun K hK => ?_)
      refine step_catC (wr := wo) (m := [(c1, c2)]) (by rfl) (.tmp 39) (.tmp 50) (by rfl) (by rfl) (by rfl) hO (below_alloc' (below_drew' (Below.refl _ _))) (covers_lit (heap_alloc_new wo.drew _)) hszr hML (Nat.le_of_lt (by simp)) ?_
      intro p9 q9 w9 hO9 b9
      rw [show (M ++ [(c1, c2)]).length = M.length + 1 from by simp] at hO9
      have g9 := (b9.block _ (show wB.heap.size < wA.heap.size by omega)).trans gR
      have fz9 := free_at (j := 2) g9
      refine hK.out _ _ ?_ (fun hHeld => ?_)
      · exact HS1 _ b9
      clear hK K
      try simp only [puts, gets]
      refine any_take (by kernel_rfl) (i := 14) (oi := _) (v := ?_) rfl rfl (by kernel_rfl) (by kernel_rfl) (by kernel_rfl) (fun _ _ _ h => h) (Or.inl ⟨by rfl, ?_⟩) hHeld ?_
      rotate_left
      · intro w' hSw; try dsimp only at hSw
        go_simp
        try with_reducible rfl
      try simp only [puts, gets]
      refine any_late (i := 15) (by kernel_rfl) rfl rfl (fun K hK => ?_)
      go_simp
      refine hK.out _ _ ?_
      clear hK K
      try simp only [puts, gets]
      refine any_done (by kernel_rfl) ?_ _
      refine NoPanic.normal ?_
      go_wp2
      go_roundw
      case rel => exact ⟨k + 1, p9, q9, by omega, by go_num, by rw [HMS.out, show (M ++ [(c1, c2)]).length = M.length + 1 from by simp]; exact box_set g9 _, by rw [HMS.out, show (M ++ [(c1, c2)]).length = M.length + 1 from by simp]; exact hO9.set (p := ⟨wB.heap.size, 2, none⟩) (by show wB.heap.size < wA.heap.size; omega) _, (bR.trans (b9.mono (by omega))).setCell (p := ⟨wB.heap.size, 2, none⟩) (Nat.le_refl _) _⟩
      case measure => simp [intOf]; omega
    · have e : k = L.covers.length := by omega
      subst e
      have hdk : decide (L.covers.length < L.covers.length) = false := decide_eq_false hlt
      obtain ⟨y0, y1, y2, y3⟩ := Box4.of (block_keep g0 bR)
      go_upto_region 10 with fail
      clear y0 y1 y2 y3 hdk
      have hLm : IsLtc wo _ (moreL L L.covers.length) := ⟨_, _, rfl, hNE.keep (keeps_below (below_trans b0 bR)), hO.is (by omega)⟩
      have gM := gR
      obtain ⟨M, HM⟩ : ∃ M, Hid ((L.covers ++ L.covers.reverse.take L.covers.length).length = M) := ⟨_, Lib.hid rfl⟩
      rw [HM.out] at hLm gM hml
      have hml1 : M ≤ L.covers.length + L.covers.length := by omega
      have hml2 : L.covers.length + L.covers.length ≤ M := by omega
      clear gR hO hml
      obtain ⟨c, hc⟩ : ∃ c, checkL L = c := ⟨_, rfl⟩
      have HC := Lib.hid hc
      have hcc : (c != c) = false := by simp
      have HLM := Lib.hid (fun W (hW : Below wo.heap.size wo W) => (⟨hLm.keep (keeps_below hW), hK.keep (keeps_below (below_trans b0 (below_trans bR hW)))⟩ : IsLtc W _ (moreL L L.covers.length) ∧ KeysAt W 0))
      have HAL := Lib.hid (fun W (hW : Below wo.heap.size wo W) => (⟨h0.keep (keeps_below (below_trans b0 (below_trans bR hW))), hK.keep (keeps_below (below_trans b0 (below_trans bR hW)))⟩ : IsLtc W _ L ∧ KeysAt W 0))
      clear hLm hc
      have HS2 : ∀ W, Below wo.heap.size wo W → (fun w' => w'.cell? ⟨wB.heap.size, 0, none⟩ = some (.string L.name.1) ∧ w'.cell? ⟨wB.heap.size, 1, none⟩ = some (.slice ea L.elems.length ec) ∧ w'.cell? ⟨wB.heap.size, 2, none⟩ = some (.slice pa M pc) ∧ w'.cell? ⟨wB.heap.size, 3, none⟩ = some (.int .i64 L.at_) ∧ w'.cell? ⟨w.heap.size, 0, none⟩ = some (.string L.name.1) ∧ w'.cell? ⟨w.heap.size, 1, none⟩ = some (.slice ea L.elems.length ec) ∧ w'.cell? ⟨w.heap.size, 2, none⟩ = some (.slice ca L.covers.length cc) ∧ w'.cell? ⟨w.heap.size, 3, none⟩ = some (.int .i64 L.at_)) W := fun W hW => ⟨(Box4.of (block_keep gM hW)).c0, (Box4.of (block_keep gM hW)).c1, (Box4.of (block_keep gM hW)).c2, (Box4.of (block_keep gM hW)).c3, (Box4.of (block_keep g0 (below_trans bR hW))).c0, (Box4.of (block_keep g0 (below_trans bR hW))).c1, (Box4.of (block_keep g0 (below_trans bR hW))).c2, (Box4.of (block_keep g0 (below_trans bR hW))).c3⟩
      go_cut [63] from 53 to 63 (fun v63 wx => v63 = .bool false ∧ Below wo.heap.size wo wx)
      case first =>
        by_cases h64 : M ≤ 64
        · have hd64 : decide (M ≤ 64) = true := decide_eq_true h64
          have hd64' : decide ((M : Int) ≤ 64) = true := decide_eq_true (by omega)
          have HCM := Lib.hid ((check_more (L := L) (by omega)).trans HC.out)
          refine wp_region_noPanic ?_
          refine wp_region_late (fun w' => w'.cell? ⟨wB.heap.size, 0, none⟩ = some (.string L.name.1) ∧ w'.cell? ⟨wB.heap.size, 1, none⟩ = some (.slice ea L.elems.length ec) ∧ w'.cell? ⟨wB.heap.size, 2, none⟩ = some (.slice pa M pc) ∧ w'.cell? ⟨wB.heap.size, 3, none⟩ = some (.int .i64 L.at_) ∧ w'.cell? ⟨w.heap.size, 0, none⟩ = some (.string L.name.1) ∧ w'.cell? ⟨w.heap.size, 1, none⟩ = some (.slice ea L.elems.length ec) ∧ w'.cell? ⟨w.heap.size, 2, none⟩ = some (.slice ca L.covers.length cc) ∧ w'.cell? ⟨w.heap.size, 3, none⟩ = some (.int .i64 L.at_)) 11 (by kernel_rfl) (HS2 _ (below_drew' (Below.refl _ _))) (fun hHeld => ?_)
          refine any_take (by kernel_rfl) (i := 0) (oi := _) (v := ?_) rfl rfl (by kernel_rfl) (by kernel_rfl) (by kernel_rfl) (fun _ _ _ h => h) (Or.inl ⟨by rfl, ?_⟩) hHeld ?_
          rotate_left
          · intro w' hSw; try dsimp only at hSw
            go_simp
            try with_reducible rfl
          try simp only [puts, gets]
          refine any_take (by kernel_rfl) (i := 1) (oi := _) (v := ?_) rfl rfl (by kernel_rfl) (by kernel_rfl) (by kernel_rfl) (fun _ _ _ h => h) (Or.inl ⟨by rfl, ?_⟩) hHeld ?_
          rotate_left
          · intro w' hSw; try dsimp only at hSw
            go_simp
            try with_reducible rfl
          try simp only [puts, gets]
          refine any_take (by kernel_rfl) (i := 2) (oi := _) (v := ?_) rfl rfl (by kernel_rfl) (by kernel_rfl) (by kernel_rfl) (fun _ _ _ h => h) (Or.inl ⟨by rfl, ?_⟩) hHeld ?_
          rotate_left
          · intro w' hSw; try dsimp only at hSw
            go_simp
            try with_reducible rfl
          try simp only [puts, gets]
          refine any_take (by kernel_rfl) (i := 3) (oi := _) (v := ?_) rfl rfl (by kernel_rfl) (by kernel_rfl) (by kernel_rfl) (fun _ _ _ h => h) (Or.inl ⟨by rfl, ?_⟩) hHeld ?_
          rotate_left
          · intro w' hSw; try dsimp only at hSw
            go_simp
            try with_reducible rfl
          try simp only [puts, gets]
          refine any_take (by kernel_rfl) (i := 4) (oi := _) (v := ?_) rfl rfl (by kernel_rfl) (by kernel_rfl) (by kernel_rfl) (fun _ _ _ h => h) (Or.inl ⟨by rfl, ?_⟩) hHeld ?_
          rotate_left
          · intro w' hSw; try dsimp only at hSw
            go_simp
            try with_reducible rfl
          try simp only [puts, gets]
          refine any_take (by kernel_rfl) (i := 5) (oi := _) (v := ?_) rfl rfl (by kernel_rfl) (by kernel_rfl) (by kernel_rfl) (fun _ _ _ h => h) (Or.inl ⟨by rfl, ?_⟩) hHeld ?_
          rotate_left
          · intro w' hSw; try dsimp only at hSw
            go_simp
            try with_reducible rfl
          try simp only [puts, gets]
          refine any_take (by kernel_rfl) (i := 7) (oi := _) (v := ?_) rfl rfl (by kernel_rfl) (by kernel_rfl) (by kernel_rfl) (fun _ _ _ h => h) (Or.inl ⟨by rfl, ?_⟩) hHeld ?_
          rotate_left
          · intro w' hSw; try dsimp only at hSw
            go_simp
            try with_reducible rfl
          try simp only [puts, gets]
          refine any_next (i := 6) (by kernel_rfl) rfl rfl (fun K hK => ?_)
          go_simp
          go_at_call 12
          refine check_ts (HLM.out _ (below_drew' (Below.refl _ _))) HCM ?_
          intro wq1 bq1
          replace bq1 : Below wo.heap.size wo wq1 := below_undrew bq1
          refine hK.out _ _ ?_ (fun hHeld => ?_)
          · exact HS2 _ bq1
          clear hK K
          try simp only [puts, gets]
          refine any_next (i := 8) (by kernel_rfl) rfl rfl (fun K hK => ?_)
          go_simp
          go_at_call 12
          refine check_ts (HAL.out _ bq1) HC ?_
          intro wq2 bq2
          replace bq2 : Below wo.heap.size wo wq2 := below_trans bq1 bq2
          refine hK.out _ _ ?_ (fun hHeld => ?_)
          · exact HS2 _ bq2
          clear hK K
          try simp only [puts, gets]
          refine any_take (by kernel_rfl) (i := 9) (oi := _) (v := ?_) rfl rfl (by kernel_rfl) (by kernel_rfl) (by kernel_rfl) (fun _ _ _ h => h) (Or.inl ⟨by rfl, ?_⟩) hHeld ?_
          rotate_left
          · intro w' hSw; try dsimp only at hSw
            go_simp
            try with_reducible rfl
          try simp only [puts, gets]
          refine any_take (by kernel_rfl) (i := 10) (oi := _) (v := ?_) rfl rfl (by kernel_rfl) (by kernel_rfl) (by kernel_rfl) (fun _ _ _ h => h) (Or.inl ⟨by rfl, ?_⟩) hHeld ?_
          rotate_left
          · intro w' hSw; try dsimp only at hSw
            go_simp
            try with_reducible rfl
          try simp only [puts, gets]
          refine any_done (by kernel_rfl) ?_ _
          refine NoPanic.normal ?_
          go_wp2
          go_meet
          case rel => exact ⟨rfl, bq2⟩
        · have hd64 : decide (M ≤ 64) = false := decide_eq_false h64
          have hd64' : decide ((M : Int) ≤ 64) = false := decide_eq_false (by omega)
          refine wp_region_noPanic ?_
          refine wp_region_late (fun w' => w'.cell? ⟨wB.heap.size, 0, none⟩ = some (.string L.name.1) ∧ w'.cell? ⟨wB.heap.size, 1, none⟩ = some (.slice ea L.elems.length ec) ∧ w'.cell? ⟨wB.heap.size, 2, none⟩ = some (.slice pa M pc) ∧ w'.cell? ⟨wB.heap.size, 3, none⟩ = some (.int .i64 L.at_) ∧ w'.cell? ⟨w.heap.size, 0, none⟩ = some (.string L.name.1) ∧ w'.cell? ⟨w.heap.size, 1, none⟩ = some (.slice ea L.elems.length ec) ∧ w'.cell? ⟨w.heap.size, 2, none⟩ = some (.slice ca L.covers.length cc) ∧ w'.cell? ⟨w.heap.size, 3, none⟩ = some (.int .i64 L.at_)) 11 (by kernel_rfl) (HS2 _ (below_drew' (Below.refl _ _))) (fun hHeld => ?_)
          refine any_take (by kernel_rfl) (i := 0) (oi := _) (v := ?_) rfl rfl (by kernel_rfl) (by kernel_rfl) (by kernel_rfl) (fun _ _ _ h => h) (Or.inl ⟨by rfl, ?_⟩) hHeld ?_
          rotate_left
          · intro w' hSw; try dsimp only at hSw
            go_simp
            try with_reducible rfl
          try simp only [puts, gets]
          refine any_take (by kernel_rfl) (i := 1) (oi := _) (v := ?_) rfl rfl (by kernel_rfl) (by kernel_rfl) (by kernel_rfl) (fun _ _ _ h => h) (Or.inl ⟨by rfl, ?_⟩) hHeld ?_
          rotate_left
          · intro w' hSw; try dsimp only at hSw
            go_simp
            try with_reducible rfl
          try simp only [puts, gets]
          refine any_take (by kernel_rfl) (i := 2) (oi := _) (v := ?_) rfl rfl (by kernel_rfl) (by kernel_rfl) (by kernel_rfl) (fun _ _ _ h => h) (Or.inl ⟨by rfl, ?_⟩) hHeld ?_
          rotate_left
          · intro w' hSw; try dsimp only at hSw
            go_simp
            try with_reducible rfl
          try simp only [puts, gets]
          refine any_take (by kernel_rfl) (i := 3) (oi := _) (v := ?_) rfl rfl (by kernel_rfl) (by kernel_rfl) (by kernel_rfl) (fun _ _ _ h => h) (Or.inl ⟨by rfl, ?_⟩) hHeld ?_
          rotate_left
          · intro w' hSw; try dsimp only at hSw
            go_simp
            try with_reducible rfl
          try simp only [puts, gets]
          refine any_take (by kernel_rfl) (i := 4) (oi := _) (v := ?_) rfl rfl (by kernel_rfl) (by kernel_rfl) (by kernel_rfl) (fun _ _ _ h => h) (Or.inl ⟨by rfl, ?_⟩) hHeld ?_
          rotate_left
          · intro w' hSw; try dsimp only at hSw
            go_simp
            try with_reducible rfl
          try simp only [puts, gets]
          refine any_take (by kernel_rfl) (i := 5) (oi := _) (v := undef) rfl rfl (by kernel_rfl) (by kernel_rfl) (by kernel_rfl) (fun _ _ _ h => h) (Or.inr ⟨by rfl, rfl⟩) hHeld ?_
          try simp only [puts, gets]
          refine any_take (by kernel_rfl) (i := 6) (oi := _) (v := undef) rfl rfl (by kernel_rfl) (by kernel_rfl) (by kernel_rfl) (fun _ _ _ h => h) (Or.inr ⟨by rfl, rfl⟩) hHeld ?_
          try simp only [puts, gets]
          refine any_take (by kernel_rfl) (i := 7) (oi := _) (v := undef) rfl rfl (by kernel_rfl) (by kernel_rfl) (by kernel_rfl) (fun _ _ _ h => h) (Or.inr ⟨by rfl, rfl⟩) hHeld ?_
          try simp only [puts, gets]
          refine any_take (by kernel_rfl) (i := 8) (oi := _) (v := undef) rfl rfl (by kernel_rfl) (by kernel_rfl) (by kernel_rfl) (fun _ _ _ h => h) (Or.inr ⟨by rfl, rfl⟩) hHeld ?_
          try simp only [puts, gets]
          refine any_take (by kernel_rfl) (i := 9) (oi := _) (v := undef) rfl rfl (by kernel_rfl) (by kernel_rfl) (by kernel_rfl) (fun _ _ _ h => h) (Or.inr ⟨by rfl, rfl⟩) hHeld ?_
          try simp only [puts, gets]
          refine any_take (by kernel_rfl) (i := 10) (oi := _) (v := ?_) rfl rfl (by kernel_rfl) (by kernel_rfl) (by kernel_rfl) (fun _ _ _ h => h) (Or.inl ⟨by rfl, ?_⟩) hHeld ?_
          rotate_left
          · intro w' hSw; try dsimp only at hSw
            go_simp
            try with_reducible rfl
          try simp only [puts, gets]
          refine any_done (by kernel_rfl) ?_ _
          refine NoPanic.normal ?_
          go_wp2
          go_meet
          case rel => exact ⟨rfl, below_drew' (Below.refl _ _)⟩
      case rest =>
        obtain ⟨rfl, bQ⟩ := hcut
        obtain ⟨wD0, rfl⟩ : ∃ wx : World, wx = wc := ⟨_, rfl⟩
        replace bR := below_trans bR bQ
        clear HS2 HLM HAL gM HM hml1 hml2 bQ hcc
        replace g0 := block_keep g0 bR
        replace b0 := below_trans b0 bR
        clear bR
        obtain ⟨y0, y1, y2, y3⟩ := Box4.of g0
        go_wp2_with fail
        refine (Check_any _ L _ (h0.keep (keeps_below b0)) (hK.keep (keeps_below b0))).mono ?_
        rintro e wD ⟨rfl, bN⟩
        replace g0 := block_keep g0 bN
        replace b0 := below_trans b0 bN
        clear bN y0 y1 y2 y3 HC
        obtain ⟨y0, y1, y2, y3⟩ := Box4.of g0
        by_cases hck : checkL L = 0
        case neg =>
          have hq : (checkL L != 0) = true := by simpa using hck
          generalize checkL L = c at *
          go_wp2
          go_ret
          exact ⟨rfl, b0⟩
        have HCK := Lib.hid hck
        rw [hck]
        have hn8 := (args_parts (check_zero hck).1).1
        have HRG := Lib.hid (args_parts (check_zero hck).1).2.2.2
        have HLAT := Lib.hid (lat_ok hck)
        clear hck
        have hwx := wrap_nat (s := x) (by omega)
        have hmod : ((x : Int).tmod (L.elems.length : Int)) = ((x % L.elems.length : Nat) : Int) := rfl
        have hmod2 : ((x : Int) % (L.elems.length : Int)) = ((x % L.elems.length : Nat) : Int) := rfl
        have hqn : x % L.elems.length < L.elems.length := Nat.mod_lt _ (by omega)
        obtain ⟨q, hq⟩ : ∃ q, x % L.elems.length = q := ⟨_, rfl⟩
        rw [hq] at hmod hmod2 hqn
        clear hq
        have hwq := wrap_nat (s := q) (by omega)
        obtain ⟨b1, of1, hce, -⟩ := hNE.at_ (List.getElem?_eq_getElem (i := 0) (by omega))
        cases hce
        go_upto_region 17 with fail
        clear y0 y1 y2 y3
        have gE := heap_alloc_new wD (.cells #[.string L.name.1, .slice (some ⟨b1, of1, none⟩) L.elems.length ec, .slice ca L.covers.length cc, .int .i64 L.at_] 25)
        have bE := below_new wD (.cells #[.string L.name.1, .slice (some ⟨b1, of1, none⟩) L.elems.length ec, .slice ca L.covers.length cc, .int .i64 L.at_] 25)
        have hszE : (wD.alloc (.cells #[.string L.name.1, .slice (some ⟨b1, of1, none⟩) L.elems.length ec, .slice ca L.covers.length cc, .int .i64 L.at_] 25)).heap.size = wD.heap.size + 1 := by simp
        obtain ⟨wE, hwE⟩ : ∃ x : World, x = wD.alloc (.cells #[.string L.name.1, .slice (some ⟨b1, of1, none⟩) L.elems.length ec, .slice ca L.covers.length cc, .int .i64 L.at_] 25) := ⟨_, rfl⟩
        rw [← hwE] at gE bE hszE
        rw [← hwE]
        clear hwE
        have HSZE := Lib.hid hszE
        clear hszE
        have hsE : wD.heap.size + 1 ≤ wE.heap.size := by rw [HSZE.out]; exact Nat.le_refl _
        have g0E := block_keep g0 bE
        have hwD : w.heap.size < wD.heap.size := block_lt g0
        have hq0 : (0 : Int) ≤ (q : Int) := by omega
        have hqI : (q : Int) ≤ (L.elems.length : Int) := by omega
        have hqe : q ≤ ec := by omega
        have hqN : q ≤ L.elems.length := by omega
        have HS3 : ∀ W, Below wE.heap.size wE W → (fun w' => w'.cell? ⟨w.heap.size, 1, none⟩ = some (.slice (some ⟨b1, of1, none⟩) L.elems.length ec)) W := fun W hW => (Box4.of (block_keep g0E hW)).c1
        have hqc : (ec = q) = False := eq_false (by omega)
        have HND := Lib.hid (fun W (hW : Below wE.heap.size wE W) => (show IsNames W (.slice (some ⟨b1, of1 + q, none⟩) (L.elems.length - q) (ec - q)) (L.elems.drop q) by have := IsRows.drop (hNE.keep (keeps_below (below_trans b0 (below_trans bE hW)))) hqN; rwa [Nat.mul_one] at this))
        have HNT := Lib.hid (fun W (hW : Below wE.heap.size wE W) => (IsRows.take (hNE.keep (keeps_below (below_trans b0 (below_trans bE hW)))) hqN : IsNames W (.slice (some ⟨b1, of1, none⟩) q ec) (L.elems.take q)))
        have hOL := other_len L hqN
        have bE0 : Below wE.heap.size wE (wE.drew.alloc (.cells #[] 9)) := (Below.refl wE.heap.size wE).drew.alloc (Nat.le_refl _) _
        have hdl : (L.elems.drop q).length ≤ 1000000 := by rw [List.length_drop]; omega
        have htl : (L.elems.take q).length ≤ 1000000 := by rw [List.length_take]; omega
        refine wp_region_noPanic ?_
        refine wp_region_late (fun w' => w'.cell? ⟨w.heap.size, 1, none⟩ = some (.slice (some ⟨b1, of1, none⟩) L.elems.length ec)) 12 (by kernel_rfl) (HS3 _ (below_drew' (Below.refl _ _))) (fun hHeld => ?_)
        refine any_take (by kernel_rfl) (i := 1) (oi := _) (v := ?_) rfl rfl (by kernel_rfl) (by kernel_rfl) (by kernel_rfl) (fun _ _ _ h => h) (Or.inl ⟨by rfl, ?_⟩) hHeld ?_
        rotate_left
        · intro w' hSw; try dsimp only at hSw
          go_simp
          try with_reducible rfl
        try simp only [puts, gets]
        refine any_take (by kernel_rfl) (i := 2) (oi := _) (v := ?_) rfl rfl (by kernel_rfl) (by kernel_rfl) (by kernel_rfl) (fun _ _ _ h => h) (Or.inl ⟨by rfl, ?_⟩) hHeld ?_
        rotate_left
        · intro w' hSw; try dsimp only at hSw
          go_simp
          try with_reducible rfl
        try simp only [puts, gets]
        refine any_take (by kernel_rfl) (i := 3) (oi := _) (v := ?_) rfl rfl (by kernel_rfl) (by kernel_rfl) (by kernel_rfl) (fun _ _ _ h => h) (Or.inl ⟨by rfl, ?_⟩) hHeld ?_
        rotate_left
        · intro w' hSw; try dsimp only at hSw
          go_simp
          try with_reducible rfl
        try simp only [puts, gets]
        refine any_take (by kernel_rfl) (i := 4) (oi := _) (v := ?_) rfl rfl (by kernel_rfl) (by kernel_rfl) (by kernel_rfl) (fun _ _ _ h => h) (Or.inl ⟨by rfl, ?_⟩) hHeld ?_
        rotate_left
        · intro w' hSw; try dsimp only at hSw
          go_simp
          try with_reducible rfl
        try simp only [puts, gets]
        refine any_take (by kernel_rfl) (i := 6) (oi := _) (v := ?_) rfl rfl (by kernel_rfl) (by kernel_rfl) (by kernel_rfl) (fun _ _ _ h => h) (Or.inl ⟨by rfl, ?_⟩) hHeld ?_
        rotate_left
        · intro w' hSw; try dsimp only at hSw
          go_simp
          try with_reducible rfl
        try simp only [puts, gets]
        refine any_take (by kernel_rfl) (i := 7) (oi := _) (v := ?_) rfl rfl (by kernel_rfl) (by kernel_rfl) (by kernel_rfl) (fun _ _ _ h => h) (Or.inl ⟨by rfl, ?_⟩) hHeld ?_
        rotate_left
        · intro w' hSw; try dsimp only at hSw
          go_simp
          try with_reducible rfl
        try simp only [puts, gets]
        refine any_take (by kernel_rfl) (i := 8) (oi := _) (v := ?_) rfl rfl (by kernel_rfl) (by kernel_rfl) (by kernel_rfl) (fun _ _ _ h => h) (Or.inl ⟨by rfl, ?_⟩) hHeld ?_
        rotate_left
        · intro w' hSw; try dsimp only at hSw
          go_simp
          try with_reducible rfl
        try simp only [puts, gets]
        refine any_take (by kernel_rfl) (i := 9) (oi := _) (v := ?_) rfl rfl (by kernel_rfl) (by kernel_rfl) (by kernel_rfl) (fun _ _ _ h => h) (Or.inl ⟨by rfl, ?_⟩) hHeld ?_
        rotate_left
        · intro w' hSw; try dsimp only at hSw
          go_simp
          try with_reducible rfl
        try simp only [puts, gets]
        refine any_next (i := 0) (by kernel_rfl) rfl rfl (fun K hK => ?_)
        go_simp
        refine hK.out _ _ ?_ (fun hHeld => ?_)
        · first | exact HS3 _ (below_alloc' (below_drew' (Below.refl _ _))) | exact HS3 _ (below_drew' (below_alloc' (Below.refl _ _)))
        clear hK K
        try simp only [puts, gets]
        refine any_next (i := 5) (by kernel_rfl) rfl rfl (fun K hK => ?_)
        refine step_catS (wr := wE.drew.alloc (.cells #[] 9)) (l := []) (m := L.elems.drop q) (by rfl) (.tmp 76) (.tmp 80) (by rfl) (by rfl) (by rfl) (OwnS.lit wE.drew) (Below.refl _ _) (HND.out _ bE0) (Nat.le_of_lt (by simp)) (Nat.le_of_lt (by simp)) hdl ?_
        intro pS cS wS hOS bS
        simp only [List.nil_append] at hOS ⊢
        have bES := bE0.trans bS
        refine hK.out _ _ ?_ (fun hHeld => ?_)
        · exact HS3 _ bES
        clear hK K
        try simp only [puts, gets]
        refine any_next (i := 10) (by kernel_rfl) rfl rfl (fun K hK => ?_)
        refine step_catS (wr := wS) (l := L.elems.drop q) (m := L.elems.take q) (by rfl) (.tmp 81) (.tmp 85) (by rfl) (by rfl) (by rfl) hOS (Below.refl _ _) (HNT.out _ bES) bES.size hdl htl ?_
        intro pN cN wN hON bN
        rw [show (L.elems.drop q ++ L.elems.take q).length = L.elems.length from hOL] at hON ⊢
        have bEN := bES.trans bN
        have gN := (bEN.block _ (show wD.heap.size < wE.heap.size by omega)).trans gE
        have fzN := free_at (j := 1) gN
        have gzN := (Box4.of gN).c1
        refine hK.out _ _ ?_ (fun hHeld => ?_)
        · exact HS3 _ bEN
        clear hK K
        try simp only [puts, gets]
        refine any_take (by kernel_rfl) (i := 11) (oi := _) (v := ?_) rfl rfl (by kernel_rfl) (by kernel_rfl) (by kernel_rfl) (fun _ _ _ h => h) (Or.inl ⟨by rfl, ?_⟩) hHeld ?_
        rotate_left
        · intro w' hSw; try dsimp only at hSw
          go_simp
          try with_reducible rfl
        try simp only [puts, gets]
        refine any_late (i := 12) (by kernel_rfl) rfl rfl (fun K hK => ?_)
        go_simp
        refine hK.out _ _ ?_
        clear hK K
        try simp only [puts, gets]
        refine any_done (by kernel_rfl) ?_ _
        refine NoPanic.normal ?_
        go_upto_region 18 with fail
        have gF := box_set1 gN (.slice pN L.elems.length cN)
        have oF := hON.set (p := ⟨wD.heap.size, 1, none⟩) (by show wD.heap.size < wE.heap.size; omega) (.slice pN L.elems.length cN)
        have bF := (bE.trans (bEN.mono (by omega))).setCell (p := ⟨wD.heap.size, 1, none⟩) (Nat.le_refl _) (.slice pN L.elems.length cN)
        obtain ⟨wF, hwF⟩ : ∃ x : World, x = wN.setCell ⟨wD.heap.size, 1, none⟩ (.slice pN L.elems.length cN) := ⟨_, rfl⟩
        rw [← hwF] at gF oF bF
        rw [← hwF]
        clear hwF gN fzN gzN hON bEN bES bS bN bE0 HND HNT HS3 hdl htl g0E hOS gE bE
        have hsF : wD.heap.size + 1 ≤ wF.heap.size := block_lt gF
        have gF1 := block_keep gF (below_new wF (.cells #[] 39))
        have fzF := free_at (j := 2) gF1
        obtain ⟨-, -, z2, -⟩ := Box4.of gF1
        go_upto_region 19 with fail
        have gG := box_set gF1 (.slice (some ⟨wF.heap.size, 0, none⟩) 0 0)
        have oG := (oF.keep (below_new wF (.cells #[] 39))).set (p := ⟨wD.heap.size, 2, none⟩) (by show wD.heap.size < wE.heap.size; omega) (.slice (some ⟨wF.heap.size, 0, none⟩) 0 0)
        have cG := (OwnC.lit wF).set (p := ⟨wD.heap.size, 2, none⟩) (by show wD.heap.size < wF.heap.size; omega) (.slice (some ⟨wF.heap.size, 0, none⟩) 0 0)
        have bG := (bF.alloc (show wD.heap.size ≤ wF.heap.size by omega) (.cells #[] 39)).setCell (p := ⟨wD.heap.size, 2, none⟩) (Nat.le_refl _) (.slice (some ⟨wF.heap.size, 0, none⟩) 0 0)
        obtain ⟨gn, cn, hpn, hgn1, hgn2⟩ := own_pos oF (by rw [show (L.elems.drop q ++ L.elems.take q).length = L.elems.length from hOL]; omega)
        injection hpn with e1 e2 e3
        subst e1 e3
        clear e2
        replace hgn1 : wE.heap.size ≤ gn := hgn1
        obtain ⟨wG, hwG⟩ : ∃ x : World, x = (wF.alloc (.cells #[] 39)).setCell ⟨wD.heap.size, 2, none⟩ (.slice (some ⟨wF.heap.size, 0, none⟩) 0 0) := ⟨_, rfl⟩
        have hFG : wF.heap.size ≤ ((wF.alloc (.cells #[] 39)).setCell ⟨wD.heap.size, 2, none⟩ (.slice (some ⟨wF.heap.size, 0, none⟩) 0 0)).heap.size := by simp [World.setCell]
        rw [← hwG] at gG oG cG bG hFG
        rw [← hwG]
        clear hwG fzF z2 gF1 gF oF bF
        have hNG := oG.is (show (L.elems.drop q ++ L.elems.take q).length ≤ _ by rw [show (L.elems.drop q ++ L.elems.take q).length = L.elems.length from hOL]; omega)
        clear oG hOL
        skip
        go_wp2
        go_loopw [11] (fun i wr => ∃ (k : Nat) (pa : Option Addr) (pc : Nat), k ≤ L.covers.length ∧ i = .int .i64 k ∧ wr.heap[wD.heap.size]? = some (.cells #[.string L.name.1, .slice (some ⟨gn, 0, none⟩) L.elems.length cN, .slice pa k pc, .int .i64 L.at_] 25 (0, 0)) ∧ OwnC wr wF.heap.size (.slice pa k pc) (turned L.elems.length q (L.covers.take k)) ∧ wr.heap[gn]? = wG.heap[gn]? ∧ wF.heap.size ≤ wr.heap.size ∧ Below wD.heap.size wD wr) (fun i _ => L.covers.length - (intOf i).toNat)
        case atStart => exact ⟨0, _, _, Nat.zero_le _, rfl, gG, cG, rfl, hFG, bG⟩
        case round =>
          clear gG cG bG
          obtain ⟨k, pa, pc, hk, rfl, gR, hO, hgn, hFo, bR⟩ := hrel
          obtain ⟨wo, rfl⟩ : ∃ wo : World, wo = wr := ⟨_, rfl⟩
          by_cases hlt : k < L.covers.length
          · have hdk : decide (k < L.covers.length) = true := decide_eq_true hlt
            have hcr := HRG.out _ (List.getElem_mem hlt)
            have hce := List.getElem?_eq_getElem hlt
            generalize L.covers[k] = c at *
            obtain ⟨c1, c2⟩ := c
            dsimp only at hcr
            obtain ⟨r1, r2, r3, r4⟩ := hcr
            obtain ⟨a, rfl⟩ := Int.eq_ofNat_of_zero_le r1
            obtain ⟨b, rfl⟩ := Int.eq_ofNat_of_zero_le r3
            have ha8 : a < L.elems.length := by omega
            have hb8 : b < L.elems.length := by omega
            clear r1 r2 r3 r4
            have HMS := Lib.hid (turned_succ (n := L.elems.length) (k := q) hce)
            obtain ⟨b2, of2, hcx, hd1, hd2⟩ := hCO.at_ hce
            cases hcx
            clear hce
            obtain ⟨s1a, hs1⟩ : ∃ s, a + L.elems.length = s := ⟨_, rfl⟩
            obtain ⟨s2a, hs2⟩ : ∃ s, s1a - q = s := ⟨_, rfl⟩
            obtain ⟨ta, ht⟩ : ∃ t, s2a % L.elems.length = t := ⟨_, rfl⟩
            have HTa := Lib.hid (show turn L.elems.length q a = ta by unfold turn; rw [hs1, hs2, ht])
            have hI1a : (a : Int) + (L.elems.length : Int) = (s1a : Int) := by omega
            have hI2a : (s1a : Int) - (q : Int) = (s2a : Int) := by omega
            have hI3a : (s2a : Int).tmod (L.elems.length : Int) = (ta : Int) := by rw [← ht]; rfl
            have htan : ta < L.elems.length := by rw [← ht]; exact Nat.mod_lt _ (by omega)
            have hs2a : s2a < 1000 := by omega
            have hs1a : s1a < 1000 := by omega
            have hw1a := wrap_nat (s := s1a) (by omega)
            have hw2a := wrap_nat (s := s2a) (by omega)
            have hw3a := wrap_nat (s := ta) (by omega)
            clear hs1 hs2 ht
            obtain ⟨s1b, hs1⟩ : ∃ s, b + L.elems.length = s := ⟨_, rfl⟩
            obtain ⟨s2b, hs2⟩ : ∃ s, s1b - q = s := ⟨_, rfl⟩
            obtain ⟨tb, ht⟩ : ∃ t, s2b % L.elems.length = t := ⟨_, rfl⟩
            have HTb := Lib.hid (show turn L.elems.length q b = tb by unfold turn; rw [hs1, hs2, ht])
            have hI1b : (b : Int) + (L.elems.length : Int) = (s1b : Int) := by omega
            have hI2b : (s1b : Int) - (q : Int) = (s2b : Int) := by omega
            have hI3b : (s2b : Int).tmod (L.elems.length : Int) = (tb : Int) := by rw [← ht]; rfl
            have htbn : tb < L.elems.length := by rw [← ht]; exact Nat.mod_lt _ (by omega)
            have hs2b : s2b < 1000 := by omega
            have hs1b : s1b < 1000 := by omega
            have hw1b := wrap_nat (s := s1b) (by omega)
            have hw2b := wrap_nat (s := s2b) (by omega)
            have hw3b := wrap_nat (s := tb) (by omega)
            clear hs1 hs2 ht
            rw [HTa.out, HTb.out] at HMS
            have hkI : (k : Int) < (L.covers.length : Int) := by omega
            have hk0 : (0 : Int) ≤ (k : Int) := by omega
            have hszr := hFo
            have hbl1 := cell_lt hd1
            have hbl2 := cell_lt hd2
            have hd1o := cell_keep (below_trans b0 bR) hd1
            have hd2o := cell_keep (below_trans b0 bR) hd2
            have g0o := block_keep g0 bR
            have hwl := b0.size
            have hTl : (turned L.elems.length q (L.covers.take k)).length = k := by rw [turned_len, List.length_take]; omega
            have HTL := Lib.hid hTl
            have hTm : (turned L.elems.length q (L.covers.take k)).length ≤ 1000000 := by omega
            clear hTl
            have HS4 : ∀ W, Below wF.heap.size wo W → (fun w' => w'.cell? ⟨wD.heap.size, 2, none⟩ = some (.slice pa k pc) ∧ w'.cell? ⟨w.heap.size, 2, none⟩ = some (.slice (some ⟨b2, of2, none⟩) L.covers.length cc) ∧ w'.cell? ⟨b2, of2 + k * 2, none⟩ = some (.int .i64 a) ∧ w'.cell? ⟨b2, of2 + k * 2 + 1, none⟩ = some (.int .i64 b)) W := fun W hW => ⟨cell_below hW (Box4.of gR).c2 (show wD.heap.size < _ by omega), cell_below hW (Box4.of g0o).c2 (show w.heap.size < _ by omega), cell_below hW hd1o (Nat.lt_of_lt_of_le hbl1 (by omega)), cell_below hW hd2o (Nat.lt_of_lt_of_le hbl2 (by omega))⟩
            clear hd1o hd2o
            obtain ⟨y0, y1, y2, y3⟩ := Box4.of g0o
            go_upto_region 22 with fail
            clear y0 y1 y2 y3
            refine wp_region_noPanic ?_
            refine wp_region_late (fun w' => w'.cell? ⟨wD.heap.size, 2, none⟩ = some (.slice pa k pc) ∧ w'.cell? ⟨w.heap.size, 2, none⟩ = some (.slice (some ⟨b2, of2, none⟩) L.covers.length cc) ∧ w'.cell? ⟨b2, of2 + k * 2, none⟩ = some (.int .i64 a) ∧ w'.cell? ⟨b2, of2 + k * 2 + 1, none⟩ = some (.int .i64 b)) 30 (by kernel_rfl) (HS4 _ (below_drew' (Below.refl _ _))) (fun hHeld => ?_)
            refine any_take (by kernel_rfl) (i := 0) (oi := _) (v := ?_) rfl rfl (by kernel_rfl) (by kernel_rfl) (by kernel_rfl) (fun _ _ _ h => h) (Or.inl ⟨by rfl, ?_⟩) hHeld ?_
            rotate_left
            · intro w' hSw; try dsimp only at hSw
              go_simp
              try with_reducible rfl
            try simp only [puts, gets]
            refine any_take (by kernel_rfl) (i := 1) (oi := _) (v := ?_) rfl rfl (by kernel_rfl) (by kernel_rfl) (by kernel_rfl) (fun _ _ _ h => h) (Or.inl ⟨by rfl, ?_⟩) hHeld ?_
            rotate_left
            · intro w' hSw; try dsimp only at hSw
              go_simp
              try with_reducible rfl
            try simp only [puts, gets]
            refine any_take (by kernel_rfl) (i := 2) (oi := _) (v := ?_) rfl rfl (by kernel_rfl) (by kernel_rfl) (by kernel_rfl) (fun _ _ _ h => h) (Or.inl ⟨by rfl, ?_⟩) hHeld ?_
            rotate_left
            · intro w' hSw; try dsimp only at hSw
              go_simp
              try with_reducible rfl
            try simp only [puts, gets]
            refine any_take (by kernel_rfl) (i := 3) (oi := _) (v := ?_) rfl rfl (by kernel_rfl) (by kernel_rfl) (by kernel_rfl) (fun _ _ _ h => h) (Or.inl ⟨by rfl, ?_⟩) hHeld ?_
            rotate_left
            · intro w' hSw; try dsimp only at hSw
              go_simp
              try with_reducible rfl
            try simp only [puts, gets]
            refine any_take (by kernel_rfl) (i := 4) (oi := _) (v := ?_) rfl rfl (by kernel_rfl) (by kernel_rfl) (by kernel_rfl) (fun _ _ _ h => h) (Or.inl ⟨by rfl, ?_⟩) hHeld ?_
            rotate_left
            · intro w' hSw; try dsimp only at hSw
              go_simp
              try with_reducible rfl
            try simp only [puts, gets]
            refine any_take (by kernel_rfl) (i := 5) (oi := _) (v := ?_) rfl rfl (by kernel_rfl) (by kernel_rfl) (by kernel_rfl) (fun _ _ _ h => h) (Or.inl ⟨by rfl, ?_⟩) hHeld ?_
            rotate_left
            · intro w' hSw; try dsimp only at hSw
              go_simp
              try with_reducible rfl
            try simp only [puts, gets]
            refine any_take (by kernel_rfl) (i := 6) (oi := _) (v := ?_) rfl rfl (by kernel_rfl) (by kernel_rfl) (by kernel_rfl) (fun _ _ _ h => h) (Or.inl ⟨by rfl, ?_⟩) hHeld ?_
            rotate_left
            · intro w' hSw; try dsimp only at hSw
              go_simp
              try with_reducible rfl
            try simp only [puts, gets]
            refine any_take (by kernel_rfl) (i := 7) (oi := _) (v := ?_) rfl rfl (by kernel_rfl) (by kernel_rfl) (by kernel_rfl) (fun _ _ _ h => h) (Or.inl ⟨by rfl, ?_⟩) hHeld ?_
            rotate_left
            · intro w' hSw; try dsimp only at hSw
              go_simp
              try with_reducible rfl
            try simp only [puts, gets]
            refine any_take (by kernel_rfl) (i := 8) (oi := _) (v := ?_) rfl rfl (by kernel_rfl) (by kernel_rfl) (by kernel_rfl) (fun _ _ _ h => h) (Or.inl ⟨by rfl, ?_⟩) hHeld ?_
            rotate_left
            · intro w' hSw; try dsimp only at hSw
              go_simp
              try with_reducible rfl
            try simp only [puts, gets]
            refine any_take (by kernel_rfl) (i := 9) (oi := _) (v := ?_) rfl rfl (by kernel_rfl) (by kernel_rfl) (by kernel_rfl) (fun _ _ _ h => h) (Or.inl ⟨by rfl, ?_⟩) hHeld ?_
            rotate_left
            · intro w' hSw; try dsimp only at hSw
              go_simp
              try with_reducible rfl
            try simp only [puts, gets]
            refine any_take (by kernel_rfl) (i := 10) (oi := _) (v := ?_) rfl rfl (by kernel_rfl) (by kernel_rfl) (by kernel_rfl) (fun _ _ _ h => h) (Or.inl ⟨by rfl, ?_⟩) hHeld ?_
            rotate_left
            · intro w' hSw; try dsimp only at hSw
              go_simp
              try with_reducible rfl
            try simp only [puts, gets]
            refine any_take (by kernel_rfl) (i := 11) (oi := _) (v := ?_) rfl rfl (by kernel_rfl) (by kernel_rfl) (by kernel_rfl) (fun _ _ _ h => h) (Or.inl ⟨by rfl, ?_⟩) hHeld ?_
            rotate_left
            · intro w' hSw; try dsimp only at hSw
              go_simp
              try with_reducible rfl
            try simp only [puts, gets]
            refine any_take (by kernel_rfl) (i := 12) (oi := _) (v := ?_) rfl rfl (by kernel_rfl) (by kernel_rfl) (by kernel_rfl) (fun _ _ _ h => h) (Or.inl ⟨by rfl, ?_⟩) hHeld ?_
            rotate_left
            · intro w' hSw; try dsimp only at hSw
              go_simp
              try with_reducible rfl
            try simp only [puts, gets]
            refine any_take (by kernel_rfl) (i := 13) (oi := _) (v := ?_) rfl rfl (by kernel_rfl) (by kernel_rfl) (by kernel_rfl) (fun _ _ _ h => h) (Or.inl ⟨by rfl, ?_⟩) hHeld ?_
            rotate_left
            · intro w' hSw; try dsimp only at hSw
              go_simp
              try with_reducible rfl
            try simp only [puts, gets]
            refine any_take (by kernel_rfl) (i := 14) (oi := _) (v := ?_) rfl rfl (by kernel_rfl) (by kernel_rfl) (by kernel_rfl) (fun _ _ _ h => h) (Or.inl ⟨by rfl, ?_⟩) hHeld ?_
            rotate_left
            · intro w' hSw; try dsimp only at hSw
              go_simp
              try with_reducible rfl
            try simp only [puts, gets]
            refine any_take (by kernel_rfl) (i := 15) (oi := _) (v := ?_) rfl rfl (by kernel_rfl) (by kernel_rfl) (by kernel_rfl) (fun _ _ _ h => h) (Or.inl ⟨by rfl, ?_⟩) hHeld ?_
            rotate_left
            · intro w' hSw; try dsimp only at hSw
              go_simp
              try with_reducible rfl
            try simp only [puts, gets]
            refine any_take (by kernel_rfl) (i := 16) (oi := _) (v := ?_) rfl rfl (by kernel_rfl) (by kernel_rfl) (by kernel_rfl) (fun _ _ _ h => h) (Or.inl ⟨by rfl, ?_⟩) hHeld ?_
            rotate_left
            · intro w' hSw; try dsimp only at hSw
              go_simp
              try with_reducible rfl
            try simp only [puts, gets]
            refine any_take (by kernel_rfl) (i := 17) (oi := _) (v := ?_) rfl rfl (by kernel_rfl) (by kernel_rfl) (by kernel_rfl) (fun _ _ _ h => h) (Or.inl ⟨by rfl, ?_⟩) hHeld ?_
            rotate_left
            · intro w' hSw; try dsimp only at hSw
              go_simp
              try with_reducible rfl
            try simp only [puts, gets]
            refine any_take (by kernel_rfl) (i := 18) (oi := _) (v := ?_) rfl rfl (by kernel_rfl) (by kernel_rfl) (by kernel_rfl) (fun _ _ _ h => h) (Or.inl ⟨by rfl, ?_⟩) hHeld ?_
            rotate_left
            · intro w' hSw; try dsimp only at hSw
              go_simp
              try with_reducible rfl
            try simp only [puts, gets]
            refine any_take (by kernel_rfl) (i := 19) (oi := _) (v := ?_) rfl rfl (by kernel_rfl) (by kernel_rfl) (by kernel_rfl) (fun _ _ _ h => h) (Or.inl ⟨by rfl, ?_⟩) hHeld ?_
            rotate_left
            · intro w' hSw; try dsimp only at hSw
              go_simp
              try with_reducible rfl
            try simp only [puts, gets]
            refine any_take (by kernel_rfl) (i := 20) (oi := _) (v := ?_) rfl rfl (by kernel_rfl) (by kernel_rfl) (by kernel_rfl) (fun _ _ _ h => h) (Or.inl ⟨by rfl, ?_⟩) hHeld ?_
            rotate_left
            · intro w' hSw; try dsimp only at hSw
              go_simp
              try with_reducible rfl
            try simp only [puts, gets]
            refine any_take (by kernel_rfl) (i := 21) (oi := _) (v := ?_) rfl rfl (by kernel_rfl) (by kernel_rfl) (by kernel_rfl) (fun _ _ _ h => h) (Or.inl ⟨by rfl, ?_⟩) hHeld ?_
            rotate_left
            · intro w' hSw; try dsimp only at hSw
              go_simp
              try with_reducible rfl
            try simp only [puts, gets]
            refine any_take (by kernel_rfl) (i := 22) (oi := _) (v := ?_) rfl rfl (by kernel_rfl) (by kernel_rfl) (by kernel_rfl) (fun _ _ _ h => h) (Or.inl ⟨by rfl, ?_⟩) hHeld ?_
            rotate_left
            · intro w' hSw; try dsimp only at hSw
              go_simp
              try with_reducible rfl
            try simp only [puts, gets]
            refine any_take (by kernel_rfl) (i := 23) (oi := _) (v := ?_) rfl rfl (by kernel_rfl) (by kernel_rfl) (by kernel_rfl) (fun _ _ _ h => h) (Or.inl ⟨by rfl, ?_⟩) hHeld ?_
            rotate_left
            · intro w' hSw; try dsimp only at hSw
              go_simp
              try with_reducible rfl
            try simp only [puts, gets]
            refine any_take (by kernel_rfl) (i := 24) (oi := _) (v := ?_) rfl rfl (by kernel_rfl) (by kernel_rfl) (by kernel_rfl) (fun _ _ _ h => h) (Or.inl ⟨by rfl, ?_⟩) hHeld ?_
            rotate_left
            · intro w' hSw; try dsimp only at hSw
              go_simp
              try with_reducible rfl
            try simp only [puts, gets]
            refine any_take (by kernel_rfl) (i := 25) (oi := _) (v := ?_) rfl rfl (by kernel_rfl) (by kernel_rfl) (by kernel_rfl) (fun _ _ _ h => h) (Or.inl ⟨by rfl, ?_⟩) hHeld ?_
            rotate_left
            · intro w' hSw; try dsimp only at hSw
              go_simp
              try with_reducible rfl
            try simp only [puts, gets]
            refine any_take (by kernel_rfl) (i := 26) (oi := _) (v := ?_) rfl rfl (by kernel_rfl) (by kernel_rfl) (by kernel_rfl) (fun _ _ _ h => h) (Or.inl ⟨by rfl, ?_⟩) hHeld ?_
            rotate_left
            · intro w' hSw; try dsimp only at hSw
              go_simp
              try with_reducible rfl
            try simp only [puts, gets]
            refine any_next (i := 27) (by kernel_rfl) rfl rfl (fun K hK => ?_)
            go_simp
            refine hK.out _ _ ?_ (fun hHeld => ?_)
            · first | exact HS4 _ (((Below.refl _ _).drew).alloc hszr _) | exact HS4 _ (((Below.refl _ _).alloc hszr _).drew)
            clear hK K
            try simp only [puts, gets]
            refine any_next (i := 28) (by kernel_rfl) rfl rfl (fun K hK => ?_)
            refine step_catC (wr := wo) (m := [((ta : Int), (tb : Int))]) (by rfl) (.tmp 98) (.tmp 124) (by rfl) (by rfl) (by rfl) hO (below_alloc' (below_drew' (Below.refl _ _))) (covers_lit (heap_alloc_new wo.drew _)) hszr hTm (Nat.le_of_lt (by simp)) ?_
            intro p9 q9 w9 hO9 b9
            rw [← HMS.out, show (turned L.elems.length q (L.covers.take (k + 1))).length = k + 1 from by rw [turned_len, List.length_take]; omega] at hO9
            rw [show (turned L.elems.length q (L.covers.take k) ++ [((ta : Int), (tb : Int))]).length = k + 1 from by rw [List.length_append, HTL.out]; rfl]
            have g9 := (b9.block _ (show wD.heap.size < wF.heap.size by omega)).trans gR
            have fz9 := free_at (j := 2) g9
            have hgn9 := (b9.block _ hgn2).trans hgn
            refine hK.out _ _ ?_ (fun hHeld => ?_)
            · exact HS4 _ b9
            clear hK K
            try simp only [puts, gets]
            refine any_take (by kernel_rfl) (i := 29) (oi := _) (v := ?_) rfl rfl (by kernel_rfl) (by kernel_rfl) (by kernel_rfl) (fun _ _ _ h => h) (Or.inl ⟨by rfl, ?_⟩) hHeld ?_
            rotate_left
            · intro w' hSw; try dsimp only at hSw
              go_simp
              try with_reducible rfl
            try simp only [puts, gets]
            refine any_late (i := 30) (by kernel_rfl) rfl rfl (fun K hK => ?_)
            go_simp
            refine hK.out _ _ ?_
            clear hK K
            try simp only [puts, gets]
            refine any_done (by kernel_rfl) ?_ _
            refine NoPanic.normal ?_
            go_wp2
            go_roundw
            case rel => exact ⟨k + 1, p9, q9, by omega, by go_num, box_set g9 _, hO9.set (p := ⟨wD.heap.size, 2, none⟩) (by show wD.heap.size < wF.heap.size; omega) _, (heap_setCell_other _ ⟨wD.heap.size, 2, none⟩ _ _ (by show gn ≠ wD.heap.size; omega)).trans hgn9, by simp [World.setCell]; have := b9.size; omega, (bR.trans (b9.mono (by omega))).setCell (p := ⟨wD.heap.size, 2, none⟩) (Nat.le_refl _) _⟩
            case measure => simp [intOf]; omega
          · have e : k = L.covers.length := by omega
            subst e
            have hdk : decide (L.covers.length < L.covers.length) = false := decide_eq_false hlt
            rw [List.take_length] at hO
            have hO2 := hO.is (by rw [turned_len]; omega)
            have hLo : IsLtc wo (.agg #[.string L.name.1, .slice (some ⟨gn, 0, none⟩) L.elems.length cN, .slice pa L.covers.length pc, .int .i64 L.at_]) (otherL L q) := ⟨_, _, rfl, IsRows.of_block hNG hgn, hO2⟩
            have bX := Below.refl wo.heap.size wo
            obtain ⟨wY, HWY⟩ : ∃ x : World, x = wo := ⟨_, rfl⟩
            rw [← HWY] at hLo gR bR bX ⊢
            clear HWY hO hO2 hgn hFo
            have HCO := Lib.hid (check_other HCK.out hqn)
            have HLO := Lib.hid (fun W (hW : Below wY.heap.size wY W) => (⟨hLo.keep (keeps_below hW), hK.keep (keeps_below (below_trans b0 (below_trans bR hW)))⟩ : IsLtc W _ (otherL L q) ∧ KeysAt W 0))
            have HAL := Lib.hid (fun W (hW : Below wY.heap.size wY W) => (⟨h0.keep (keeps_below (below_trans b0 (below_trans bR hW))), hK.keep (keeps_below (below_trans b0 (below_trans bR hW)))⟩ : IsLtc W _ L ∧ KeysAt W 0))
            clear hLo
            have HS5 := Lib.hid (show ∀ W, Below wY.heap.size wY W → (fun w' => w'.cell? ⟨wD.heap.size, 0, none⟩ = some (.string L.name.1) ∧ w'.cell? ⟨wD.heap.size, 1, none⟩ = some (.slice (some ⟨gn, 0, none⟩) L.elems.length cN) ∧ w'.cell? ⟨wD.heap.size, 2, none⟩ = some (.slice pa L.covers.length pc) ∧ w'.cell? ⟨wD.heap.size, 3, none⟩ = some (.int .i64 L.at_) ∧ w'.cell? ⟨w.heap.size, 0, none⟩ = some (.string L.name.1) ∧ w'.cell? ⟨w.heap.size, 1, none⟩ = some (.slice (some ⟨b1, of1, none⟩) L.elems.length ec) ∧ w'.cell? ⟨w.heap.size, 2, none⟩ = some (.slice ca L.covers.length cc) ∧ w'.cell? ⟨w.heap.size, 3, none⟩ = some (.int .i64 L.at_)) W from fun W hW => ⟨(Box4.of (block_keep gR hW)).c0, (Box4.of (block_keep gR hW)).c1, (Box4.of (block_keep gR hW)).c2, (Box4.of (block_keep gR hW)).c3, (Box4.of (block_keep g0 (below_trans bR hW))).c0, (Box4.of (block_keep g0 (below_trans bR hW))).c1, (Box4.of (block_keep g0 (below_trans bR hW))).c2, (Box4.of (block_keep g0 (below_trans bR hW))).c3⟩)
            obtain ⟨y0, y1, y2, y3⟩ := Box4.of (block_keep g0 bR)
            go_upto_region 23 with fail
            clear y0 y1 y2 y3 hdk
            go_wp2
            go_loopw [12, 13] (fun i _ wr => ∃ a : Nat, a ≤ L.elems.length ∧ i = .int .i64 a ∧ Below wY.heap.size wY wr) (fun i _ _ => L.elems.length - (intOf i).toNat)
            case atStart => exact ⟨0, Nat.zero_le _, rfl, bX⟩
            case round =>
              clear bX
              obtain ⟨a, ha, rfl, bo⟩ := hrel
              obtain ⟨wa, rfl⟩ : ∃ wa : World, wa = wr := ⟨_, rfl⟩
              by_cases hla : a < L.elems.length
              · have hda : decide (a < L.elems.length) = true := decide_eq_true hla
                obtain ⟨s1a, hs1⟩ : ∃ s, a + L.elems.length = s := ⟨_, rfl⟩
                obtain ⟨s2a, hs2⟩ : ∃ s, s1a - q = s := ⟨_, rfl⟩
                obtain ⟨ta, ht⟩ : ∃ t, s2a % L.elems.length = t := ⟨_, rfl⟩
                have HTa := Lib.hid (show turn L.elems.length q a = ta by unfold turn; rw [hs1, hs2, ht])
                have hI1a : (a : Int) + (L.elems.length : Int) = (s1a : Int) := by omega
                have hI2a : (s1a : Int) - (q : Int) = (s2a : Int) := by omega
                have hI3a : (s2a : Int).tmod (L.elems.length : Int) = (ta : Int) := by rw [← ht]; rfl
                have htan : ta < L.elems.length := by rw [← ht]; exact Nat.mod_lt _ (by omega)
                have hs2a : s2a < 1000 := by omega
                have hs1a : s1a < 1000 := by omega
                have hw1a := wrap_nat (s := s1a) (by omega)
                have hw2a := wrap_nat (s := s2a) (by omega)
                have hw3a := wrap_nat (s := ta) (by omega)
                clear hs1 hs2 ht
                go_wp2
                have bI0 := Below.refl wa.heap.size wa
                go_loopw [13] (fun i wr => ∃ b : Nat, b ≤ L.elems.length ∧ i = .int .i64 b ∧ Below wa.heap.size wa wr) (fun i _ => L.elems.length - (intOf i).toNat)
                case atStart => exact ⟨0, Nat.zero_le _, rfl, bI0⟩
                case round =>
                  clear bI0
                  obtain ⟨b, hb, rfl, bI⟩ := hrel
                  obtain ⟨wi, rfl⟩ : ∃ wi : World, wi = wr := ⟨_, rfl⟩
                  by_cases hlb : b < L.elems.length
                  · have hdb : decide (b < L.elems.length) = true := decide_eq_true hlb
                    obtain ⟨s1b, hs1⟩ : ∃ s, b + L.elems.length = s := ⟨_, rfl⟩
                    obtain ⟨s2b, hs2⟩ : ∃ s, s1b - q = s := ⟨_, rfl⟩
                    obtain ⟨tb, ht⟩ : ∃ t, s2b % L.elems.length = t := ⟨_, rfl⟩
                    have HTb := Lib.hid (show turn L.elems.length q b = tb by unfold turn; rw [hs1, hs2, ht])
                    have hI1b : (b : Int) + (L.elems.length : Int) = (s1b : Int) := by omega
                    have hI2b : (s1b : Int) - (q : Int) = (s2b : Int) := by omega
                    have hI3b : (s2b : Int).tmod (L.elems.length : Int) = (tb : Int) := by rw [← ht]; rfl
                    have htbn : tb < L.elems.length := by rw [← ht]; exact Nat.mod_lt _ (by omega)
                    have hs2b : s2b < 1000 := by omega
                    have hs1b : s1b < 1000 := by omega
                    have hw1b := wrap_nat (s := s1b) (by omega)
                    have hw2b := wrap_nat (s := s2b) (by omega)
                    have hw3b := wrap_nat (s := tb) (by omega)
                    clear hs1 hs2 ht
                    obtain ⟨j, hj, hjl⟩ := HLAT.out.join_is hla hlb
                    have HJ := Lib.hid hj
                    have hjn := hjl.1
                    obtain ⟨s1j, hs1⟩ : ∃ s, j + L.elems.length = s := ⟨_, rfl⟩
                    obtain ⟨s2j, hs2⟩ : ∃ s, s1j - q = s := ⟨_, rfl⟩
                    obtain ⟨tj, ht⟩ : ∃ t, s2j % L.elems.length = t := ⟨_, rfl⟩
                    have HTj := Lib.hid (show turn L.elems.length q j = tj by unfold turn; rw [hs1, hs2, ht])
                    have hI1j : (j : Int) + (L.elems.length : Int) = (s1j : Int) := by omega
                    have hI2j : (s1j : Int) - (q : Int) = (s2j : Int) := by omega
                    have hI3j : (s2j : Int).tmod (L.elems.length : Int) = (tj : Int) := by rw [← ht]; rfl
                    have htjn : tj < L.elems.length := by rw [← ht]; exact Nat.mod_lt _ (by omega)
                    have hs2j : s2j < 1000 := by omega
                    have hs1j : s1j < 1000 := by omega
                    have hw1j := wrap_nat (s := s1j) (by omega)
                    have hw2j := wrap_nat (s := s2j) (by omega)
                    have hw3j := wrap_nat (s := tj) (by omega)
                    clear hs1 hs2 ht
                    have HLQ := Lib.hid ((ord_other HCK.out hqn hla hlb).symm)
                    have HJO := Lib.hid (lub_other HCK.out hqn hla hlb hjl)
                    rw [HTa.out, HTb.out] at HLQ HJO
                    rw [HTj.out] at HJO
                    obtain ⟨c, hc⟩ : ∃ c, ordL (otherL L q) ta tb = c := ⟨_, rfl⟩
                    have HC1 := Lib.hid hc
                    have HC2 := Lib.hid (HLQ.out.trans hc)
                    clear hc hj hjl HLQ
                    have hcc : (c != c) = false := by simp
                    have hjj : ((tj : Int) != (tj : Int)) = false := by simp
                    have hol := other_len L (Nat.le_of_lt hqn)
                    have htao : ta < (otherL L q).elems.length := by omega
                    have htbo : tb < (otherL L q).elems.length := by omega
                    clear hol
                    have bYi := below_trans bo bI
                    go_upto_region 29 with fail
                    go_cut [186] from 132 to 186 (fun vt wx => vt = .bool false ∧ Below wi.heap.size wi wx)
                    case first =>
                      refine wp_region_noPanic ?_
                      refine wp_region_late (fun w' => w'.cell? ⟨wD.heap.size, 0, none⟩ = some (.string L.name.1) ∧ w'.cell? ⟨wD.heap.size, 1, none⟩ = some (.slice (some ⟨gn, 0, none⟩) L.elems.length cN) ∧ w'.cell? ⟨wD.heap.size, 2, none⟩ = some (.slice pa L.covers.length pc) ∧ w'.cell? ⟨wD.heap.size, 3, none⟩ = some (.int .i64 L.at_) ∧ w'.cell? ⟨w.heap.size, 0, none⟩ = some (.string L.name.1) ∧ w'.cell? ⟨w.heap.size, 1, none⟩ = some (.slice (some ⟨b1, of1, none⟩) L.elems.length ec) ∧ w'.cell? ⟨w.heap.size, 2, none⟩ = some (.slice ca L.covers.length cc) ∧ w'.cell? ⟨w.heap.size, 3, none⟩ = some (.int .i64 L.at_)) 50 (by kernel_rfl) (HS5.out _ (below_trans bYi (below_drew' (Below.refl _ _)))) (fun hHeld => ?_)
                      refine any_take (by kernel_rfl) (i := 0) (oi := _) (v := ?_) rfl rfl (by kernel_rfl) (by kernel_rfl) (by kernel_rfl) (fun _ _ _ h => h) (Or.inl ⟨by rfl, ?_⟩) hHeld ?_
                      rotate_left
                      · intro w' hSw; try dsimp only at hSw
                        go_simp
                        try with_reducible rfl
                      try simp only [puts, gets]
                      refine any_take (by kernel_rfl) (i := 1) (oi := _) (v := ?_) rfl rfl (by kernel_rfl) (by kernel_rfl) (by kernel_rfl) (fun _ _ _ h => h) (Or.inl ⟨by rfl, ?_⟩) hHeld ?_
                      rotate_left
                      · intro w' hSw; try dsimp only at hSw
                        go_simp
                        try with_reducible rfl
                      try simp only [puts, gets]
                      refine any_take (by kernel_rfl) (i := 2) (oi := _) (v := ?_) rfl rfl (by kernel_rfl) (by kernel_rfl) (by kernel_rfl) (fun _ _ _ h => h) (Or.inl ⟨by rfl, ?_⟩) hHeld ?_
                      rotate_left
                      · intro w' hSw; try dsimp only at hSw
                        go_simp
                        try with_reducible rfl
                      try simp only [puts, gets]
                      refine any_take (by kernel_rfl) (i := 3) (oi := _) (v := ?_) rfl rfl (by kernel_rfl) (by kernel_rfl) (by kernel_rfl) (fun _ _ _ h => h) (Or.inl ⟨by rfl, ?_⟩) hHeld ?_
                      rotate_left
                      · intro w' hSw; try dsimp only at hSw
                        go_simp
                        try with_reducible rfl
                      try simp only [puts, gets]
                      refine any_take (by kernel_rfl) (i := 4) (oi := _) (v := ?_) rfl rfl (by kernel_rfl) (by kernel_rfl) (by kernel_rfl) (fun _ _ _ h => h) (Or.inl ⟨by rfl, ?_⟩) hHeld ?_
                      rotate_left
                      · intro w' hSw; try dsimp only at hSw
                        go_simp
                        try with_reducible rfl
                      try simp only [puts, gets]
                      refine any_take (by kernel_rfl) (i := 5) (oi := _) (v := ?_) rfl rfl (by kernel_rfl) (by kernel_rfl) (by kernel_rfl) (fun _ _ _ h => h) (Or.inl ⟨by rfl, ?_⟩) hHeld ?_
                      rotate_left
                      · intro w' hSw; try dsimp only at hSw
                        go_simp
                        try with_reducible rfl
                      try simp only [puts, gets]
                      refine any_take (by kernel_rfl) (i := 6) (oi := _) (v := ?_) rfl rfl (by kernel_rfl) (by kernel_rfl) (by kernel_rfl) (fun _ _ _ h => h) (Or.inl ⟨by rfl, ?_⟩) hHeld ?_
                      rotate_left
                      · intro w' hSw; try dsimp only at hSw
                        go_simp
                        try with_reducible rfl
                      try simp only [puts, gets]
                      refine any_take (by kernel_rfl) (i := 7) (oi := _) (v := ?_) rfl rfl (by kernel_rfl) (by kernel_rfl) (by kernel_rfl) (fun _ _ _ h => h) (Or.inl ⟨by rfl, ?_⟩) hHeld ?_
                      rotate_left
                      · intro w' hSw; try dsimp only at hSw
                        go_simp
                        try with_reducible rfl
                      try simp only [puts, gets]
                      refine any_take (by kernel_rfl) (i := 8) (oi := _) (v := ?_) rfl rfl (by kernel_rfl) (by kernel_rfl) (by kernel_rfl) (fun _ _ _ h => h) (Or.inl ⟨by rfl, ?_⟩) hHeld ?_
                      rotate_left
                      · intro w' hSw; try dsimp only at hSw
                        go_simp
                        try with_reducible rfl
                      try simp only [puts, gets]
                      refine any_take (by kernel_rfl) (i := 9) (oi := _) (v := ?_) rfl rfl (by kernel_rfl) (by kernel_rfl) (by kernel_rfl) (fun _ _ _ h => h) (Or.inl ⟨by rfl, ?_⟩) hHeld ?_
                      rotate_left
                      · intro w' hSw; try dsimp only at hSw
                        go_simp
                        try with_reducible rfl
                      try simp only [puts, gets]
                      refine any_take (by kernel_rfl) (i := 10) (oi := _) (v := ?_) rfl rfl (by kernel_rfl) (by kernel_rfl) (by kernel_rfl) (fun _ _ _ h => h) (Or.inl ⟨by rfl, ?_⟩) hHeld ?_
                      rotate_left
                      · intro w' hSw; try dsimp only at hSw
                        go_simp
                        try with_reducible rfl
                      try simp only [puts, gets]
                      refine any_take (by kernel_rfl) (i := 11) (oi := _) (v := ?_) rfl rfl (by kernel_rfl) (by kernel_rfl) (by kernel_rfl) (fun _ _ _ h => h) (Or.inl ⟨by rfl, ?_⟩) hHeld ?_
                      rotate_left
                      · intro w' hSw; try dsimp only at hSw
                        go_simp
                        try with_reducible rfl
                      try simp only [puts, gets]
                      refine any_take (by kernel_rfl) (i := 12) (oi := _) (v := ?_) rfl rfl (by kernel_rfl) (by kernel_rfl) (by kernel_rfl) (fun _ _ _ h => h) (Or.inl ⟨by rfl, ?_⟩) hHeld ?_
                      rotate_left
                      · intro w' hSw; try dsimp only at hSw
                        go_simp
                        try with_reducible rfl
                      try simp only [puts, gets]
                      refine any_take (by kernel_rfl) (i := 13) (oi := _) (v := ?_) rfl rfl (by kernel_rfl) (by kernel_rfl) (by kernel_rfl) (fun _ _ _ h => h) (Or.inl ⟨by rfl, ?_⟩) hHeld ?_
                      rotate_left
                      · intro w' hSw; try dsimp only at hSw
                        go_simp
                        try with_reducible rfl
                      try simp only [puts, gets]
                      refine any_take (by kernel_rfl) (i := 14) (oi := _) (v := ?_) rfl rfl (by kernel_rfl) (by kernel_rfl) (by kernel_rfl) (fun _ _ _ h => h) (Or.inl ⟨by rfl, ?_⟩) hHeld ?_
                      rotate_left
                      · intro w' hSw; try dsimp only at hSw
                        go_simp
                        try with_reducible rfl
                      try simp only [puts, gets]
                      refine any_take (by kernel_rfl) (i := 16) (oi := _) (v := ?_) rfl rfl (by kernel_rfl) (by kernel_rfl) (by kernel_rfl) (fun _ _ _ h => h) (Or.inl ⟨by rfl, ?_⟩) hHeld ?_
                      rotate_left
                      · intro w' hSw; try dsimp only at hSw
                        go_simp
                        try with_reducible rfl
                      try simp only [puts, gets]
                      refine any_take (by kernel_rfl) (i := 17) (oi := _) (v := ?_) rfl rfl (by kernel_rfl) (by kernel_rfl) (by kernel_rfl) (fun _ _ _ h => h) (Or.inl ⟨by rfl, ?_⟩) hHeld ?_
                      rotate_left
                      · intro w' hSw; try dsimp only at hSw
                        go_simp
                        try with_reducible rfl
                      try simp only [puts, gets]
                      refine any_take (by kernel_rfl) (i := 18) (oi := _) (v := ?_) rfl rfl (by kernel_rfl) (by kernel_rfl) (by kernel_rfl) (fun _ _ _ h => h) (Or.inl ⟨by rfl, ?_⟩) hHeld ?_
                      rotate_left
                      · intro w' hSw; try dsimp only at hSw
                        go_simp
                        try with_reducible rfl
                      try simp only [puts, gets]
                      refine any_next (i := 15) (by kernel_rfl) rfl rfl (fun K hK => ?_)
                      go_simp
                      go_at_call 14
                      refine leq_ts HCO (HLO.out _ (below_trans bYi (below_drew' (Below.refl _ _)))) htao htbo HC1 ?_
                      intro wq1 bq1
                      replace bq1 : Below wi.heap.size wi wq1 := below_undrew bq1
                      refine hK.out _ _ ?_ (fun hHeld => ?_)
                      · exact HS5.out _ (below_trans bYi bq1)
                      clear hK K
                      try simp only [puts, gets]
                      refine any_next (i := 19) (by kernel_rfl) rfl rfl (fun K hK => ?_)
                      go_simp
                      go_at_call 14
                      refine leq_ts HCK (HAL.out _ (below_trans bYi bq1)) hla hlb HC2 ?_
                      intro wq2 bq2
                      replace bq2 : Below wi.heap.size wi wq2 := below_trans bq1 bq2
                      refine hK.out _ _ ?_ (fun hHeld => ?_)
                      · exact HS5.out _ (below_trans bYi bq2)
                      clear hK K
                      try simp only [puts, gets]
                      refine any_take (by kernel_rfl) (i := 20) (oi := _) (v := ?_) rfl rfl (by kernel_rfl) (by kernel_rfl) (by kernel_rfl) (fun _ _ _ h => h) (Or.inl ⟨by rfl, ?_⟩) hHeld ?_
                      rotate_left
                      · intro w' hSw; try dsimp only at hSw
                        go_simp
                        try with_reducible rfl
                      try simp only [puts, gets]
                      refine any_take (by kernel_rfl) (i := 21) (oi := _) (v := ?_) rfl rfl (by kernel_rfl) (by kernel_rfl) (by kernel_rfl) (fun _ _ _ h => h) (Or.inl ⟨by rfl, ?_⟩) hHeld ?_
                      rotate_left
                      · intro w' hSw; try dsimp only at hSw
                        go_simp
                        try with_reducible rfl
                      try simp only [puts, gets]
                      refine any_take (by kernel_rfl) (i := 22) (oi := _) (v := ?_) rfl rfl (by kernel_rfl) (by kernel_rfl) (by kernel_rfl) (fun _ _ _ h => h) (Or.inl ⟨by rfl, ?_⟩) hHeld ?_
                      rotate_left
                      · intro w' hSw; try dsimp only at hSw
                        go_simp
                        try with_reducible rfl
                      try simp only [puts, gets]
                      refine any_take (by kernel_rfl) (i := 23) (oi := _) (v := ?_) rfl rfl (by kernel_rfl) (by kernel_rfl) (by kernel_rfl) (fun _ _ _ h => h) (Or.inl ⟨by rfl, ?_⟩) hHeld ?_
                      rotate_left
                      · intro w' hSw; try dsimp only at hSw
                        go_simp
                        try with_reducible rfl
                      try simp only [puts, gets]
                      refine any_take (by kernel_rfl) (i := 24) (oi := _) (v := ?_) rfl rfl (by kernel_rfl) (by kernel_rfl) (by kernel_rfl) (fun _ _ _ h => h) (Or.inl ⟨by rfl, ?_⟩) hHeld ?_
                      rotate_left
                      · intro w' hSw; try dsimp only at hSw
                        go_simp
                        try with_reducible rfl
                      try simp only [puts, gets]
                      refine any_take (by kernel_rfl) (i := 25) (oi := _) (v := ?_) rfl rfl (by kernel_rfl) (by kernel_rfl) (by kernel_rfl) (fun _ _ _ h => h) (Or.inl ⟨by rfl, ?_⟩) hHeld ?_
                      rotate_left
                      · intro w' hSw; try dsimp only at hSw
                        go_simp
                        try with_reducible rfl
                      try simp only [puts, gets]
                      refine any_take (by kernel_rfl) (i := 26) (oi := _) (v := ?_) rfl rfl (by kernel_rfl) (by kernel_rfl) (by kernel_rfl) (fun _ _ _ h => h) (Or.inl ⟨by rfl, ?_⟩) hHeld ?_
                      rotate_left
                      · intro w' hSw; try dsimp only at hSw
                        go_simp
                        try with_reducible rfl
                      try simp only [puts, gets]
                      refine any_take (by kernel_rfl) (i := 27) (oi := _) (v := ?_) rfl rfl (by kernel_rfl) (by kernel_rfl) (by kernel_rfl) (fun _ _ _ h => h) (Or.inl ⟨by rfl, ?_⟩) hHeld ?_
                      rotate_left
                      · intro w' hSw; try dsimp only at hSw
                        go_simp
                        try with_reducible rfl
                      try simp only [puts, gets]
                      refine any_take (by kernel_rfl) (i := 28) (oi := _) (v := ?_) rfl rfl (by kernel_rfl) (by kernel_rfl) (by kernel_rfl) (fun _ _ _ h => h) (Or.inl ⟨by rfl, ?_⟩) hHeld ?_
                      rotate_left
                      · intro w' hSw; try dsimp only at hSw
                        go_simp
                        try with_reducible rfl
                      try simp only [puts, gets]
                      refine any_take (by kernel_rfl) (i := 29) (oi := _) (v := ?_) rfl rfl (by kernel_rfl) (by kernel_rfl) (by kernel_rfl) (fun _ _ _ h => h) (Or.inl ⟨by rfl, ?_⟩) hHeld ?_
                      rotate_left
                      · intro w' hSw; try dsimp only at hSw
                        go_simp
                        try with_reducible rfl
                      try simp only [puts, gets]
                      refine any_take (by kernel_rfl) (i := 30) (oi := _) (v := ?_) rfl rfl (by kernel_rfl) (by kernel_rfl) (by kernel_rfl) (fun _ _ _ h => h) (Or.inl ⟨by rfl, ?_⟩) hHeld ?_
                      rotate_left
                      · intro w' hSw; try dsimp only at hSw
                        go_simp
                        try with_reducible rfl
                      try simp only [puts, gets]
                      refine any_take (by kernel_rfl) (i := 31) (oi := _) (v := ?_) rfl rfl (by kernel_rfl) (by kernel_rfl) (by kernel_rfl) (fun _ _ _ h => h) (Or.inl ⟨by rfl, ?_⟩) hHeld ?_
                      rotate_left
                      · intro w' hSw; try dsimp only at hSw
                        go_simp
                        try with_reducible rfl
                      try simp only [puts, gets]
                      refine any_take (by kernel_rfl) (i := 32) (oi := _) (v := ?_) rfl rfl (by kernel_rfl) (by kernel_rfl) (by kernel_rfl) (fun _ _ _ h => h) (Or.inl ⟨by rfl, ?_⟩) hHeld ?_
                      rotate_left
                      · intro w' hSw; try dsimp only at hSw
                        go_simp
                        try with_reducible rfl
                      try simp only [puts, gets]
                      refine any_take (by kernel_rfl) (i := 33) (oi := _) (v := ?_) rfl rfl (by kernel_rfl) (by kernel_rfl) (by kernel_rfl) (fun _ _ _ h => h) (Or.inl ⟨by rfl, ?_⟩) hHeld ?_
                      rotate_left
                      · intro w' hSw; try dsimp only at hSw
                        go_simp
                        try with_reducible rfl
                      try simp only [puts, gets]
                      refine any_take (by kernel_rfl) (i := 34) (oi := _) (v := ?_) rfl rfl (by kernel_rfl) (by kernel_rfl) (by kernel_rfl) (fun _ _ _ h => h) (Or.inl ⟨by rfl, ?_⟩) hHeld ?_
                      rotate_left
                      · intro w' hSw; try dsimp only at hSw
                        go_simp
                        try with_reducible rfl
                      try simp only [puts, gets]
                      refine any_take (by kernel_rfl) (i := 35) (oi := _) (v := ?_) rfl rfl (by kernel_rfl) (by kernel_rfl) (by kernel_rfl) (fun _ _ _ h => h) (Or.inl ⟨by rfl, ?_⟩) hHeld ?_
                      rotate_left
                      · intro w' hSw; try dsimp only at hSw
                        go_simp
                        try with_reducible rfl
                      try simp only [puts, gets]
                      refine any_take (by kernel_rfl) (i := 36) (oi := _) (v := ?_) rfl rfl (by kernel_rfl) (by kernel_rfl) (by kernel_rfl) (fun _ _ _ h => h) (Or.inl ⟨by rfl, ?_⟩) hHeld ?_
                      rotate_left
                      · intro w' hSw; try dsimp only at hSw
                        go_simp
                        try with_reducible rfl
                      try simp only [puts, gets]
                      refine any_take (by kernel_rfl) (i := 38) (oi := _) (v := ?_) rfl rfl (by kernel_rfl) (by kernel_rfl) (by kernel_rfl) (fun _ _ _ h => h) (Or.inl ⟨by rfl, ?_⟩) hHeld ?_
                      rotate_left
                      · intro w' hSw; try dsimp only at hSw
                        go_simp
                        try with_reducible rfl
                      try simp only [puts, gets]
                      refine any_take (by kernel_rfl) (i := 39) (oi := _) (v := ?_) rfl rfl (by kernel_rfl) (by kernel_rfl) (by kernel_rfl) (fun _ _ _ h => h) (Or.inl ⟨by rfl, ?_⟩) hHeld ?_
                      rotate_left
                      · intro w' hSw; try dsimp only at hSw
                        go_simp
                        try with_reducible rfl
                      try simp only [puts, gets]
                      refine any_take (by kernel_rfl) (i := 40) (oi := _) (v := ?_) rfl rfl (by kernel_rfl) (by kernel_rfl) (by kernel_rfl) (fun _ _ _ h => h) (Or.inl ⟨by rfl, ?_⟩) hHeld ?_
                      rotate_left
                      · intro w' hSw; try dsimp only at hSw
                        go_simp
                        try with_reducible rfl
                      try simp only [puts, gets]
                      refine any_take (by kernel_rfl) (i := 42) (oi := _) (v := ?_) rfl rfl (by kernel_rfl) (by kernel_rfl) (by kernel_rfl) (fun _ _ _ h => h) (Or.inl ⟨by rfl, ?_⟩) hHeld ?_
                      rotate_left
                      · intro w' hSw; try dsimp only at hSw
                        go_simp
                        try with_reducible rfl
                      try simp only [puts, gets]
                      refine any_take (by kernel_rfl) (i := 44) (oi := _) (v := ?_) rfl rfl (by kernel_rfl) (by kernel_rfl) (by kernel_rfl) (fun _ _ _ h => h) (Or.inl ⟨by rfl, ?_⟩) hHeld ?_
                      rotate_left
                      · intro w' hSw; try dsimp only at hSw
                        go_simp
                        try with_reducible rfl
                      try simp only [puts, gets]
                      refine any_take (by kernel_rfl) (i := 46) (oi := _) (v := ?_) rfl rfl (by kernel_rfl) (by kernel_rfl) (by kernel_rfl) (fun _ _ _ h => h) (Or.inl ⟨by rfl, ?_⟩) hHeld ?_
                      rotate_left
                      · intro w' hSw; try dsimp only at hSw
                        go_simp
                        try with_reducible rfl
                      try simp only [puts, gets]
                      refine any_next (i := 37) (by kernel_rfl) rfl rfl (fun K hK => ?_)
                      go_simp
                      go_at_call 16
                      refine join_ts HCO (HLO.out _ (below_trans bYi bq2)) htao htbo HJO ?_
                      intro wq3 bq3
                      replace bq3 : Below wi.heap.size wi wq3 := below_trans bq2 bq3
                      refine hK.out _ _ ?_ (fun hHeld => ?_)
                      · exact HS5.out _ (below_trans bYi bq3)
                      clear hK K
                      try simp only [puts, gets]
                      refine any_next (i := 41) (by kernel_rfl) rfl rfl (fun K hK => ?_)
                      go_simp
                      go_at_call 16
                      refine join_ts HCK (HAL.out _ (below_trans bYi bq3)) hla hlb HJ ?_
                      intro wq4 bq4
                      replace bq4 : Below wi.heap.size wi wq4 := below_trans bq3 bq4
                      refine hK.out _ _ ?_ (fun hHeld => ?_)
                      · exact HS5.out _ (below_trans bYi bq4)
                      clear hK K
                      try simp only [puts, gets]
                      refine any_take (by kernel_rfl) (i := 43) (oi := _) (v := ?_) rfl rfl (by kernel_rfl) (by kernel_rfl) (by kernel_rfl) (fun _ _ _ h => h) (Or.inl ⟨by rfl, ?_⟩) hHeld ?_
                      rotate_left
                      · intro w' hSw; try dsimp only at hSw
                        go_simp
                        try with_reducible rfl
                      try simp only [puts, gets]
                      refine any_take (by kernel_rfl) (i := 45) (oi := _) (v := ?_) rfl rfl (by kernel_rfl) (by kernel_rfl) (by kernel_rfl) (fun _ _ _ h => h) (Or.inl ⟨by rfl, ?_⟩) hHeld ?_
                      rotate_left
                      · intro w' hSw; try dsimp only at hSw
                        go_simp
                        try with_reducible rfl
                      try simp only [puts, gets]
                      refine any_take (by kernel_rfl) (i := 47) (oi := _) (v := ?_) rfl rfl (by kernel_rfl) (by kernel_rfl) (by kernel_rfl) (fun _ _ _ h => h) (Or.inl ⟨by rfl, ?_⟩) hHeld ?_
                      rotate_left
                      · intro w' hSw; try dsimp only at hSw
                        go_simp
                        try with_reducible rfl
                      try simp only [puts, gets]
                      refine any_take (by kernel_rfl) (i := 48) (oi := _) (v := ?_) rfl rfl (by kernel_rfl) (by kernel_rfl) (by kernel_rfl) (fun _ _ _ h => h) (Or.inl ⟨by rfl, ?_⟩) hHeld ?_
                      rotate_left
                      · intro w' hSw; try dsimp only at hSw
                        go_simp
                        try with_reducible rfl
                      try simp only [puts, gets]
                      refine any_take (by kernel_rfl) (i := 49) (oi := _) (v := ?_) rfl rfl (by kernel_rfl) (by kernel_rfl) (by kernel_rfl) (fun _ _ _ h => h) (Or.inl ⟨by rfl, ?_⟩) hHeld ?_
                      rotate_left
                      · intro w' hSw; try dsimp only at hSw
                        go_simp
                        try with_reducible rfl
                      try simp only [puts, gets]
                      refine any_done (by kernel_rfl) ?_ _
                      refine NoPanic.normal ?_
                      go_wp2
                      go_meet
                      case rel => exact ⟨rfl, bq4⟩
                    case rest =>
                      obtain ⟨rfl, bQ⟩ := hcut
                      have bI2 := below_trans bI bQ
                      go_wp2
                      go_roundw
                      case rel => exact ⟨b + 1, by omega, by go_num, bI2⟩
                      case measure => simp [intOf]; omega
                  · have e : b = L.elems.length := by omega
                    subst e
                    have hdb : decide (L.elems.length < L.elems.length) = false := decide_eq_false hlb
                    have bZ := below_trans bo bI
                    go_wp2
                    go_roundw
                    case rel => exact ⟨a + 1, by omega, by go_num, bZ⟩
                    case measure => simp [intOf]; omega
              · have e : a = L.elems.length := by omega
                subst e
                have hda : decide (L.elems.length < L.elems.length) = false := decide_eq_false hla
                obtain ⟨z0, z1, z2, z3⟩ := Box4.of (block_keep gR bo)
                go_wp2_with fail
                refine (Check_any _ (otherL L q) _ (HLO.out _ bo).1 (HLO.out _ bo).2).mono ?_
                rintro e wf ⟨rfl, bN⟩
                rw [HCO.out]
                go_wp2
                go_ret
                exact ⟨rfl, below_trans (below_trans (below_trans b0 bR) bo) bN⟩
end Go.Proofs.YtkjlflmcojmfgaaDoor
