/- Parts Kf, Kg, Kh, Kk, Kl, Kn, Km, Two, L5: words, walks and laws that the claims of this seat share. -/
import Derived.Test.YtcembocnkndlhaaJ3
import Derived.Test.YtcembocnkndlhaaJ2
/- The walk of Records. -/
namespace Go.Proofs.Ytcembocnkndlhaa
open Go.RowKit Go.Shelf
attribute [local go_sem] Oper.semAt_some
theorem KpB.put {n₀ : Nat} {w : World} (hn : n₀ ≤ w.heap.size) (W : World) (l : Nat) (o o' : Obj) (hl : w.heap.size ≤ l) (h : W.heap[l]? = some o) (hc : o.isCells = false) (hw : o.isWalk = false) : KpB n₀ W (W.putObj l o') :=
  ⟨belowK_b hn W l o o' hl h hc hw, fun k cs t _ hk => (World.putObj_heap_other (fun e => by subst e; rw [h] at hk; cases hk; cases hc)).trans hk⟩
theorem own_block26 {w : World} {base n : Nat} {v : Value} {xs : List Value} (h : w.ownsRow base 26 1 v n xs) : ∀ k, v.ownBlock = some k → base ≤ k ∧ ∃ cs, w.heap[k]? = some (.cells cs 26 (0, 0)) := by
  intro k hk
  rcases h.2 with ⟨rfl, _⟩ | ⟨g, cap, cur, rfl, hb, h3, _⟩
  · cases hk
  · obtain rfl : g = k := by simpa [Value.ownBlock] using hk
    exact ⟨hb, cur, h3⟩
theorem own_form {w : World} {base : Nat} {e : TypeId} {size n : Nat} {v : Value} {xs : List Value} (h : w.ownsRow base e size v n xs) : ∃ a c, v = .slice a n c := by
  rcases h.2 with ⟨rfl, h0⟩ | ⟨g, cap, cur, rfl, _⟩
  · exact ⟨none, 0, by rw [h0]⟩
  · exact ⟨_, _, rfl⟩
theorem set_block {w : World} {g : Nat} {v : Value} {t : TypeId} (h : w.heap[g]? = some (.cells #[v] t (0, 0))) (x : Value) : (w.setCell ⟨g, 0, none⟩ x).heap[g]? = some (.cells #[x] t (0, 0)) := heap_setCell_same w g 0 _ t x h
theorem putObj_keeps {W : World} {D : Nat} {o o' : Obj} (h : W.heap[D]? = some o) (hc : o.isCells = false) : Keeps W (W.putObj D o') := by
  intro p v hp
  have hne : p.block ≠ D := fun e => by
    unfold World.cell? at hp
    rw [e, h] at hp
    cases o <;> simp_all [Obj.isCells]
  exact (World.cell?_of_block (World.putObj_heap_other hne)).trans hp
theorem IsPages.keeps {A B : World} {v : Value} {L : List (List UInt8)} (h : IsPages A v L) (hk : Keeps A B) : IsPages B v L := by
  obtain ⟨us, h1, h2, h3⟩ := h
  exact ⟨us, IsRows.keep h1 hk, h2, fun i u l hu hl => IsRows.keep (h3 i u l hu hl) hk⟩
theorem pages_of_ents {W : World} {base : Nat} {v : Value} {xs : List Ent} (h : W.ownsRow base 26 1 v xs.length (xs.map valE)) (hH : HoldE W xs) (hl : xs.length ≤ 1000000) : IsPages W v (recs xs) := by
  refine ⟨xs.map valE, IsRows.of_owns (base := base) (e := 26) (by rw [flatV, List.length_map]; exact h) (fun _ _ => rfl) (by rw [List.length_map]; omega), by unfold recs; rw [List.length_map, List.length_map], fun i u l hu hx => ?_⟩
  unfold recs at hx
  rw [List.getElem?_map] at hu hx
  obtain ⟨x, hx1, rfl⟩ := Option.map_eq_some_iff.1 hu
  rw [hx1] at hx
  obtain rfl := Option.some.inj hx
  exact (hH x (List.mem_of_getElem? hx1)).is
theorem chain_short {P : Pages} {k z : Nat} {l : List (List UInt8)} (h : Chain P k l z) : k + l.length ≤ z := by
  induction h with
  | nil => exact Nat.le_refl _
  | cons hk h t ih => have := entryAt_lt h; rw [List.length_cons]; omega
def PagesRet (L : List (List UInt8)) (w : World) (e : Ending) (w' : World) : Prop := ∃ u, e = .returned u ∧ IsPages w' u L ∧ Below w.heap.size w w'
set_option maxHeartbeats 2000000 in
set_option maxRecDepth 100000 in
theorem Records_err (v : Value) (d : Dk) (k : Int) (w : World) (h : IsDisk w v d) (hf : failure d k ≠ 0) : Calls Try.prog 41 #[v, .int .i64 k] w (PagesRet (recordsD d k) w) := by
  have h0 := h
  obtain ⟨pa, pc, wa, wc, rfl, -, -, -⟩ := h.shape
  have b0 := below_new w (.cells #[.slice pa d.pages.length pc, .slice wa d.writes.length wc, .bool d.down] 25)
  have g0 := heap_alloc_new w (.cells #[.slice pa d.pages.length pc, .slice wa d.writes.length wc, .bool d.down] 25)
  obtain ⟨wb, hwb⟩ : ∃ x : World, x = w.alloc (.cells #[.slice pa d.pages.length pc, .slice wa d.writes.length wc, .bool d.down] 25) := ⟨_, rfl⟩
  rw [← hwb] at b0 g0
  obtain ⟨y0, y1, y2, -, -, -⟩ := Box3.of g0
  have HR := Lib.hid (show recordsD d k = [] from if_pos hf)
  obtain ⟨r, hr⟩ : ∃ r, failure d k = r := ⟨_, rfl⟩
  have hq : (r != 0) = true := by rw [← hr]; simpa using hf
  have HRR := Lib.hid hr
  clear hf hr
  go_enter Try.func41, Try.ntmps41
  go_wp2_with fail
  rw [← hwb]
  clear hwb
  refine (readable_any _ d k _ (h0.keep b0)).mono ?_
  rintro e w1 ⟨rfl, b1⟩
  rw [HRR.out]
  go_wp2
  go_ret
  exact ⟨_, rfl, by rw [HR.out]; exact IsPages.nil _, below_trans b0 b1⟩
set_option maxHeartbeats 4000000 in
set_option maxRecDepth 100000 in
theorem Records_in (v : Value) (d : Dk) (start : Nat) (w : World) (h : IsDisk w v d) (hf : failure d start = 0) : CallsIn Fence.wide 4 Try.prog 41 #[v, .int .i64 start] w (PagesRet (recordsD d start) w) := by
  have h0 := h
  obtain ⟨pa, pc, wa, wc, rfl, -, -, -⟩ := h.shape
  have b0 := below_new w (.cells #[.slice pa d.pages.length pc, .slice wa d.writes.length wc, .bool d.down] 25)
  have g0 := heap_alloc_new w (.cells #[.slice pa d.pages.length pc, .slice wa d.writes.length wc, .bool d.down] 25)
  obtain ⟨wb, hwb⟩ : ∃ x : World, x = w.alloc (.cells #[.slice pa d.pages.length pc, .slice wa d.writes.length wc, .bool d.down] 25) := ⟨_, rfl⟩
  rw [← hwb] at b0 g0
  obtain ⟨y0, y1, y2, -, -, -⟩ := Box3.of g0
  obtain ⟨hfm, hdn, hk0, hk1⟩ := failure_zero hf
  have hst : start < 400 := by omega
  have HFM := Lib.hid hfm
  have HDN := Lib.hid hdn
  have HF := Lib.hid hf
  have HRD := Lib.hid (show recordsD d start = (walkL (pagesOf d) 400 start).1 by unfold recordsD; rw [if_neg (by simp [hf])]; rfl)
  clear hfm hdn hf
  refine callsIn_of_wp_marks Try.func41 rfl trivial ?_ rfl
  simp only [Try.ntmps41, List.size_toArray, List.length_cons, List.length_nil, Nat.reduceAdd, Nat.reduceSub, Array.replicate_succ, Array.replicate_zero, List.push_toArray, List.append_toArray, List.nil_append, List.cons_append]
  gi_wp2_with fail
  rw [← hwb]
  clear hwb
  refine ⟨trivial, ?_⟩
  (with_reducible refine (callsIn_wide.2 (readable_any _ d start _ (h0.keep b0))).mono ?_)
  rintro e w1 ⟨rfl, b1⟩
  rw [HF.out]
  clear y0 y1 y2
  have g1 := block_keep g0 b1
  have bw1 := below_trans b0 b1
  have gA := heap_alloc_new w1 (.cells #[.slice none 0 0] 22)
  have bA := below_new w1 (.cells #[.slice none 0 0] 22)
  have hsA : (w1.alloc (.cells #[.slice none 0 0] 22)).heap.size = w1.heap.size + 1 := by simp
  obtain ⟨y0, y1, y2, -, -, -⟩ := Box3.of (block_keep g1 bA)
  gi_wp2_with fail
  obtain ⟨wA, hwA⟩ : ∃ x : World, x = w1.alloc (.cells #[.slice none 0 0] 22) := ⟨_, rfl⟩
  rw [← hwA] at gA bA hsA y0 y1 y2
  rw [← hwA]
  clear hwA
  have HSA := Lib.hid hsA
  clear hsA
  have hszA : w1.heap.size + 1 ≤ wA.heap.size := by rw [HSA.out]; exact Nat.le_refl _
  refine ⟨trivial, ?_⟩
  (with_reducible refine (callsIn_wide.2 (entries_any _ _ _ _ _ _ _ _ _)).mono ?_)
  rintro e w3 ⟨rfl, hw3⟩
  have gD := heap_alloc_new wA (.cells #[.slice pa d.pages.length pc, .slice wa d.writes.length wc, .bool d.down] 25)
  have gS := heap_alloc_new (wA.alloc (.cells #[.slice pa d.pages.length pc, .slice wa d.writes.length wc, .bool d.down] 25)) (.cells #[.int .i64 start] 3)
  have bD := below_new wA (.cells #[.slice pa d.pages.length pc, .slice wa d.writes.length wc, .bool d.down] 25)
  have bS := below_new (wA.alloc (.cells #[.slice pa d.pages.length pc, .slice wa d.writes.length wc, .bool d.down] 25)) (.cells #[.int .i64 start] 3)
  replace gD := block_keep gD bS
  rw [show (wA.alloc (.cells #[.slice pa d.pages.length pc, .slice wa d.writes.length wc, .bool d.down] 25)).heap.size = wA.heap.size + 1 by simp] at gS
  have bAS := below_trans bD bS
  rw [← hw3] at gD gS bAS
  clear hw3 bD bS
  have g5 := block_keep gA bAS
  have hs3 := bAS.size
  have b13 := below_trans bA bAS
  have hBd : ∀ A, KpB w1.heap.size w3 A → Box3 A wA.heap.size (.slice pa d.pages.length pc) (.slice wa d.writes.length wc) (.bool d.down) := fun A hA => Box3.of (hA.2 _ _ 25 (.inr rfl) gD)
  have hDk : ∀ A, KpB w1.heap.size w3 A → IsDisk A (.agg #[.slice pa d.pages.length pc, .slice wa d.writes.length wc, .bool d.down]) d := fun A hA => (h0.keep bw1).keep (b13.trans hA.1)
  have hcS := cell_at (j := 0) gS rfl
  obtain ⟨DV, hDV⟩ : ∃ DV, DV = Value.agg #[.slice pa d.pages.length pc, .slice wa d.writes.length wc, .bool d.down] := ⟨_, rfl⟩
  have hseq := entries_told d (wA.heap.size + 1) wA.heap.size w1.heap.size start pa wa pc wc w3 (by omega) hcS hBd hDk HFM.out HDN.out hst
  gi_wp2_with fail
  refine range_told (α := Ent) rfl (by decide) (gf := 81) (lb := #[.pointer (some ⟨wA.heap.size + 1, 0, none⟩), .pointer (some ⟨wA.heap.size, 0, none⟩)]) rfl trivial (enters_of Try.func81 (by kernel_rfl) rfl) hseq KpB.trans (KpB.put (w := w3) (by omega)) (Below.refl _ _) (fun _ => rfl) (SE_own _ _ _)
    (fun pre W => (∃ v, W.heap[w1.heap.size]? = some (.cells #[v] 22 (0, 0)) ∧ W.ownsRow (w1.heap.size + 1) 26 1 v pre.length (pre.map valE)) ∧ Below w1.heap.size w1 W)
    (OwnFrom.and (fun _ _ _ _ hs hg hr => by obtain ⟨v, h1, h2⟩ := hs; exact ⟨v, cells_grown h1 hg fun r e => (hr r e).2, own_grown h2 hg fun r e => (hr r e).2⟩) (ownFrom_below (Nat.le_refl _) (by omega)))
    ⟨⟨_, g5, World.ownsRow_nil _ _ _ _⟩, b13⟩
    (fun x a' W => ∃ Bx, w1.heap.size < Bx ∧ W.heap[Bx]? = some (.cells #[valE x, .int .i64 x.fin] 86 (0, 0)) ∧ a' = { tmps := #[.agg #[.slice pa d.pages.length pc, .slice wa d.writes.length wc, .bool d.down], .int .i64 start, .pointer (some ⟨w.heap.size, 0, none⟩), undef, .slice none 0 0, .pointer (some ⟨w1.heap.size, 0, none⟩), .pointer (some ⟨Bx, 0, none⟩), .agg #[.slice pa d.pages.length pc, .slice wa d.writes.length wc, .bool d.down], .int .i64 start, .int .i64 0, .bool false, .agg #[.slice pa d.pages.length pc, .slice wa d.writes.length wc, .bool d.down], .int .i64 start, .func (.func 81) #[] #[.pointer (some ⟨wA.heap.size + 1, 0, none⟩), .pointer (some ⟨wA.heap.size, 0, none⟩)], .agg #[valE x, .int .i64 x.fin], undef, undef, undef, undef, undef, undef], defers := [] })
    (fun x a' _ _ _ _ hs hg hr => by obtain ⟨Bx, h1, h2, h3⟩ := hs; exact ⟨Bx, h1, cells_grown h2 hg fun r e => (hr r e).2, h3⟩) ?assign ?body ?done
  case assign =>
    rintro l pre x W K ⟨⟨v, hv, hO⟩, hB⟩ hK
    unfold encE
    have hlt := block_lt hv
    gi_wp2
    exact hK _ _ ((KeepsOthers.alloc _ _).from _) (KpB.of_below (below_new W _) hB.size) ⟨⟨v, block_keep hv (below_new W _), own_keep hO (below_new W _)⟩, hB.alloc hB.size _⟩ ⟨W.heap.size, hlt, heap_alloc_new W _, rfl⟩
  case body =>
    rintro l pre x a' W hl ⟨⟨v, hv, hO⟩, hB⟩ ⟨Bx, hBx, gX, rfl⟩ hlt
    obtain ⟨va, vc, rfl⟩ := own_form hO
    obtain ⟨i0, hi, hz0, hz1, hz2⟩ := info_parts info26
    have hcv := cell_at (j := 0) hv rfl
    have hcx : W.cell? ⟨Bx, 0, none⟩ = some (.slice (some ⟨x.g, 0, none⟩) x.rec_.length x.cap) := cell_at (j := 0) gX rfl
    have hOA := own_keep hO (below_new W (.cells #[valE x] 26))
    have hsrc := cell_one' W (valE x) 26
    have hone : ∀ u ∈ [valE x], u.oneCell' = true := by intro u hu; simp at hu; subst hu; rfl
    have hm1 : pre.length + 1 ≤ maxLen := by unfold maxLen; omega
    have hm2 : (pre.length + 1) * 24 ≤ 140737488355328 := by omega
    have hbv := block_lt hv
    have hbs : w1.heap.size + 1 ≤ (W.alloc (.cells #[valE x] 26)).heap.size := by simp; omega
    unfold valE
    gi_wp2_with (gi_at_builtin; refine wpListIn_append_own_at _ rfl (.tmp 15) (.tmp 18) 22 rfl (w1.heap.size + 1) 26 i0 (.slice none 0 0) 1 24 Try.underlying22 hi hz0 hz1 hz2 rfl (by decide) (.slice va pre.length vc) pre.length (pre.map valE) rfl hOA ⟨W.heap.size, 0, none⟩ 1 1 [valE x] rfl rfl hsrc hone hm1 hm2 hbs ?_; intro v' w6 hown6 hgrow6 hnil6 hat6; obtain ⟨g', cap', hv', hgb⟩ := own_succ hown6; subst hv'; have hb6 : w6.heap[w1.heap.size]? = some (.cells #[.slice va pre.length vc] 22 (0, 0)) := (hgrow6.block _ (by simp; omega) (fun e => by have := (own_block26 hO _ e.symm).1; omega)).trans (block_keep hv (below_new W _)); have hc6 := cell_at (j := 0) hb6 rfl; have hf6 := free_at (j := 0) hb6)
    have hkk : ∀ k, k < W.heap.size → k ≠ w1.heap.size → Value.ownBlock (.slice va pre.length vc) ≠ some k → (w6.setCell ⟨w1.heap.size, 0, none⟩ (.slice (some ⟨g', 0, none⟩) (pre.length + 1) cap')).heap[k]? = W.heap[k]? := fun k hk1 hk2 hk3 =>
      (heap_setCell_other w6 ⟨w1.heap.size, 0, none⟩ k _ hk2).trans ((hgrow6.block k (by simp; omega) (fun e => hk3 e.symm)).trans ((below_new W _).block k hk1))
    have hkp := round_kept (B := w3.heap.size) (n₀ := w1.heap.size) (own := Value.ownBlock (.slice va pre.length vc)) (W := W) (W' := w6.setCell ⟨w1.heap.size, 0, none⟩ (.slice (some ⟨g', 0, none⟩) (pre.length + 1) cap')) (by have := hgrow6.size; simp [World.setCell] at this ⊢; omega) hgrow6.os hgrow6.tape hgrow6.output hv (by decide) (Nat.le_refl _) (fun k e => ⟨by have := (own_block26 hO k e).1; omega, (own_block26 hO k e).2⟩) hkk
    refine ⟨hkp.1, hkp.2, ⟨_, set_block hb6 _, ?_⟩, hB.trans hkp.2.1⟩
    exact own_store hown6 (p := ⟨w1.heap.size, 0, none⟩) (by show w1.heap.size < w1.heap.size + 1; omega) _
  case done =>
    rintro D ys W hD hS ⟨⟨v, hv, hO⟩, hB⟩ hK
    obtain ⟨va, vc, rfl⟩ := own_form hO
    have hcv := cell_at (j := 0) hv rfl
    have hsh := chain_short hS.1
    have htop := Chain.top hS.1 (by omega)
    have hln : (recs ys).length = ys.length := by unfold recs; rw [List.length_map]
    have hpg := pages_of_ents hO hS.2.2 (by omega)
    have hL := walk_is hS.1 hS.2.1
    have HL := Lib.hid (show recordsD d start = recs ys by rw [HRD.out, hL])
    clear hL hln hsh htop
    gi_wp2
    refine ⟨by simp, .inl ⟨_, _, rfl, run_takeDeferred hK, ?_⟩⟩
    exact ⟨_, results_tmp rfl _ _ _, _, rfl, by rw [HL.out]; exact hpg.keeps (putObj_keeps hK rfl), (bw1.trans (hB.mono bw1.size)).trans (belowK_b (w := w3) (by have := bw1.size; omega) W D _ _ hD hK rfl rfl)⟩
theorem Records_any (v : Value) (d : Dk) (k : Int) (w : World) (h : IsDisk w v d) : Calls Try.prog 41 #[v, .int .i64 k] w (PagesRet (recordsD d k) w) := by
  by_cases hf : failure d k = 0
  · obtain ⟨-, -, h0, -⟩ := failure_zero hf
    obtain ⟨n, rfl⟩ := Int.eq_ofNat_of_zero_le h0
    exact callsIn_wide.1 (Records_in v d n w h hf)
  · exact Records_err v d k w h hf
end Go.Proofs.Ytcembocnkndlhaa
/- The walk of End. -/
namespace Go.Proofs.Ytcembocnkndlhaa
open Go.RowKit Go.Shelf
attribute [local go_sem] Oper.semAt_some
set_option maxHeartbeats 2000000 in
set_option maxRecDepth 100000 in
theorem End_err (v : Value) (d : Dk) (k : Int) (w : World) (h : IsDisk w v d) (hf : failure d k ≠ 0) : Calls Try.prog 42 #[v, .int .i64 k] w fun e w' => e = .returned (.int .i64 (endD d k)) ∧ Below w.heap.size w w' := by
  have h0 := h
  obtain ⟨pa, pc, wa, wc, rfl, -, -, -⟩ := h.shape
  have b0 := below_new w (.cells #[.slice pa d.pages.length pc, .slice wa d.writes.length wc, .bool d.down] 25)
  have g0 := heap_alloc_new w (.cells #[.slice pa d.pages.length pc, .slice wa d.writes.length wc, .bool d.down] 25)
  obtain ⟨wb, hwb⟩ : ∃ x : World, x = w.alloc (.cells #[.slice pa d.pages.length pc, .slice wa d.writes.length wc, .bool d.down] 25) := ⟨_, rfl⟩
  rw [← hwb] at b0 g0
  obtain ⟨y0, y1, y2, -, -, -⟩ := Box3.of g0
  have HR := Lib.hid (show endD d k = -1 from if_pos hf)
  obtain ⟨r, hr⟩ : ∃ r, failure d k = r := ⟨_, rfl⟩
  have hq : (r != 0) = true := by rw [← hr]; simpa using hf
  have HRR := Lib.hid hr
  clear hf hr
  go_enter Try.func42, Try.ntmps42
  go_wp2_with fail
  rw [← hwb]
  clear hwb
  refine (readable_any _ d k _ (h0.keep b0)).mono ?_
  rintro e w1 ⟨rfl, b1⟩
  rw [HRR.out]
  go_wp2
  go_ret
  exact ⟨ret_int HR.out.symm, below_trans b0 b1⟩
set_option maxHeartbeats 4000000 in
set_option maxRecDepth 100000 in
theorem End_in (v : Value) (d : Dk) (start : Nat) (w : World) (h : IsDisk w v d) (hf : failure d start = 0) : CallsIn Fence.wide 4 Try.prog 42 #[v, .int .i64 start] w fun e w' => e = .returned (.int .i64 (endD d start)) ∧ Below w.heap.size w w' := by
  have h0 := h
  obtain ⟨pa, pc, wa, wc, rfl, -, -, -⟩ := h.shape
  have b0 := below_new w (.cells #[.slice pa d.pages.length pc, .slice wa d.writes.length wc, .bool d.down] 25)
  have g0 := heap_alloc_new w (.cells #[.slice pa d.pages.length pc, .slice wa d.writes.length wc, .bool d.down] 25)
  obtain ⟨wb, hwb⟩ : ∃ x : World, x = w.alloc (.cells #[.slice pa d.pages.length pc, .slice wa d.writes.length wc, .bool d.down] 25) := ⟨_, rfl⟩
  rw [← hwb] at b0 g0
  obtain ⟨y0, y1, y2, -, -, -⟩ := Box3.of g0
  obtain ⟨hfm, hdn, hk0, hk1⟩ := failure_zero hf
  have hst : start < 400 := by omega
  have HFM := Lib.hid hfm
  have HDN := Lib.hid hdn
  have HF := Lib.hid hf
  have HRD := Lib.hid (show endD d start = ((walkL (pagesOf d) 400 start).2 : Nat) by unfold endD; rw [if_neg (by simp [hf])]; rfl)
  clear hfm hdn hf
  refine callsIn_of_wp_marks Try.func42 rfl trivial ?_ rfl
  simp only [Try.ntmps42, List.size_toArray, List.length_cons, List.length_nil, Nat.reduceAdd, Nat.reduceSub, Array.replicate_succ, Array.replicate_zero, List.push_toArray, List.append_toArray, List.nil_append, List.cons_append]
  gi_wp2_with fail
  rw [← hwb]
  clear hwb
  refine ⟨trivial, ?_⟩
  (with_reducible refine (callsIn_wide.2 (readable_any _ d start _ (h0.keep b0))).mono ?_)
  rintro e w1 ⟨rfl, b1⟩
  rw [HF.out]
  clear y0 y1 y2
  have g1 := block_keep g0 b1
  have bw1 := below_trans b0 b1
  have gA := heap_alloc_new w1 (.cells #[.int .i64 start] 3)
  have bA := below_new w1 (.cells #[.int .i64 start] 3)
  have hsA : (w1.alloc (.cells #[.int .i64 start] 3)).heap.size = w1.heap.size + 1 := by simp
  obtain ⟨y0, y1, y2, -, -, -⟩ := Box3.of (block_keep g1 bA)
  gi_wp2_with fail
  obtain ⟨wA, hwA⟩ : ∃ x : World, x = w1.alloc (.cells #[.int .i64 start] 3) := ⟨_, rfl⟩
  rw [← hwA] at gA bA hsA y0 y1 y2
  rw [← hwA]
  clear hwA
  have HSA := Lib.hid hsA
  clear hsA
  have hszA : w1.heap.size + 1 ≤ wA.heap.size := by rw [HSA.out]; exact Nat.le_refl _
  refine ⟨trivial, ?_⟩
  (with_reducible refine (callsIn_wide.2 (entries_any _ _ _ _ _ _ _ _ _)).mono ?_)
  rintro e w3 ⟨rfl, hw3⟩
  have gD := heap_alloc_new wA (.cells #[.slice pa d.pages.length pc, .slice wa d.writes.length wc, .bool d.down] 25)
  have gS := heap_alloc_new (wA.alloc (.cells #[.slice pa d.pages.length pc, .slice wa d.writes.length wc, .bool d.down] 25)) (.cells #[.int .i64 start] 3)
  have bD := below_new wA (.cells #[.slice pa d.pages.length pc, .slice wa d.writes.length wc, .bool d.down] 25)
  have bS := below_new (wA.alloc (.cells #[.slice pa d.pages.length pc, .slice wa d.writes.length wc, .bool d.down] 25)) (.cells #[.int .i64 start] 3)
  replace gD := block_keep gD bS
  rw [show (wA.alloc (.cells #[.slice pa d.pages.length pc, .slice wa d.writes.length wc, .bool d.down] 25)).heap.size = wA.heap.size + 1 by simp] at gS
  have bAS := below_trans bD bS
  rw [← hw3] at gD gS bAS
  clear hw3 bD bS
  have g5 := block_keep gA bAS
  have hs3 := bAS.size
  have b13 := below_trans bA bAS
  have hBd : ∀ A, KpB w1.heap.size w3 A → Box3 A wA.heap.size (.slice pa d.pages.length pc) (.slice wa d.writes.length wc) (.bool d.down) := fun A hA => Box3.of (hA.2 _ _ 25 (.inr rfl) gD)
  have hDk : ∀ A, KpB w1.heap.size w3 A → IsDisk A (.agg #[.slice pa d.pages.length pc, .slice wa d.writes.length wc, .bool d.down]) d := fun A hA => (h0.keep bw1).keep (b13.trans hA.1)
  have hcS := cell_at (j := 0) gS rfl
  obtain ⟨DV, hDV⟩ : ∃ DV, DV = Value.agg #[.slice pa d.pages.length pc, .slice wa d.writes.length wc, .bool d.down] := ⟨_, rfl⟩
  have hseq := entries_told d (wA.heap.size + 1) wA.heap.size w1.heap.size start pa wa pc wc w3 (by omega) hcS hBd hDk HFM.out HDN.out hst
  gi_wp2_with fail
  refine range_told (α := Ent) rfl (by decide) (gf := 81) (lb := #[.pointer (some ⟨wA.heap.size + 1, 0, none⟩), .pointer (some ⟨wA.heap.size, 0, none⟩)]) rfl trivial (enters_of Try.func81 (by kernel_rfl) rfl) hseq KpB.trans (KpB.put (w := w3) (by omega)) (Below.refl _ _) (fun _ => rfl) (SE_own _ _ _)
    (fun pre W => (W.heap[w1.heap.size]? = some (.cells #[.int .i64 (endOf start pre)] 3 (0, 0))) ∧ Below w1.heap.size w1 W)
    (OwnFrom.and (fun _ _ _ _ hs hg hr => cells_grown hs hg fun r e => (hr r e).2) (ownFrom_below (Nat.le_refl _) (by omega)))
    ⟨g5, b13⟩
    (fun x a' W => ∃ Bx, w1.heap.size < Bx ∧ W.heap[Bx]? = some (.cells #[valE x, .int .i64 x.fin] 86 (0, 0)) ∧ a' = { tmps := #[.agg #[.slice pa d.pages.length pc, .slice wa d.writes.length wc, .bool d.down], .int .i64 start, .pointer (some ⟨w.heap.size, 0, none⟩), undef, .int .i64 0, .pointer (some ⟨w1.heap.size, 0, none⟩), .pointer (some ⟨Bx, 0, none⟩), .agg #[.slice pa d.pages.length pc, .slice wa d.writes.length wc, .bool d.down], .int .i64 start, .int .i64 0, .bool false, .int .i64 start, .agg #[.slice pa d.pages.length pc, .slice wa d.writes.length wc, .bool d.down], .int .i64 start, .func (.func 81) #[] #[.pointer (some ⟨wA.heap.size + 1, 0, none⟩), .pointer (some ⟨wA.heap.size, 0, none⟩)], .agg #[valE x, .int .i64 x.fin], undef, undef, undef], defers := [] })
    (fun x a' _ _ _ _ hs hg hr => by obtain ⟨Bx, h1, h2, h3⟩ := hs; exact ⟨Bx, h1, cells_grown h2 hg fun r e => (hr r e).2, h3⟩) ?assign ?body ?done
  case assign =>
    rintro l pre x W K ⟨hv, hB⟩ hK
    unfold encE
    have hlt := block_lt hv
    gi_wp2
    exact hK _ _ ((KeepsOthers.alloc _ _).from _) (KpB.of_below (below_new W _) hB.size) ⟨block_keep hv (below_new W _), hB.alloc hB.size _⟩ ⟨W.heap.size, hlt, heap_alloc_new W _, rfl⟩
  case body =>
    rintro l pre x a' W hl ⟨hv, hB⟩ ⟨Bx, hBx, gX, rfl⟩ hlt
    have hcv := cell_at (j := 0) hv rfl
    have hfv := free_at (j := 0) hv
    have hcx : W.cell? ⟨Bx, 1, none⟩ = some (.int .i64 x.fin) := cell_at (j := 1) gX rfl
    have hkk : ∀ k, k < W.heap.size → k ≠ w1.heap.size → (none : Option Nat) ≠ some k → (W.setCell ⟨w1.heap.size, 0, none⟩ (.int .i64 x.fin)).heap[k]? = W.heap[k]? := fun k _ hk2 _ => heap_setCell_other W ⟨w1.heap.size, 0, none⟩ k _ hk2
    have hkp := round_kept (B := w3.heap.size) (n₀ := w1.heap.size) (own := none) (W := W) (W' := W.setCell ⟨w1.heap.size, 0, none⟩ (.int .i64 x.fin)) (by simp [World.setCell]) rfl rfl rfl hv (by decide) (Nat.le_refl _) (fun k e => by cases e) hkk
    have HE := Lib.hid (endOf_snoc start pre x)
    have hB' := hB.trans hkp.2.1
    gi_wp2
    rw [HE.out]
    exact set_block hv _
  case done =>
    rintro D ys W hD hS ⟨hv, hB⟩ hK
    have hcv := cell_at (j := 0) hv rfl
    have hL := walk_is hS.1 hS.2.1
    have HL := Lib.hid (show endD d start = (endOf start ys : Nat) by rw [HRD.out, hL])
    clear hL
    gi_wp2
    refine ⟨by simp, .inl ⟨_, _, rfl, run_takeDeferred hK, ?_⟩⟩
    refine ⟨_, results_tmp rfl _ _ _, ?_, (bw1.trans (hB.mono bw1.size)).trans (belowK_b (w := w3) (by have := bw1.size; omega) W D _ _ hD hK rfl rfl)⟩
    rw [HL.out]; rfl
theorem End_any (v : Value) (d : Dk) (k : Int) (w : World) (h : IsDisk w v d) : Calls Try.prog 42 #[v, .int .i64 k] w fun e w' => e = .returned (.int .i64 (endD d k)) ∧ Below w.heap.size w w' := by
  by_cases hf : failure d k = 0
  · obtain ⟨-, -, h0, -⟩ := failure_zero hf
    obtain ⟨n, rfl⟩ := Int.eq_ofNat_of_zero_le h0
    exact callsIn_wide.1 (End_in v d n w h hf)
  · exact End_err v d k w h hf
end Go.Proofs.Ytcembocnkndlhaa
/- The walks of Chunk, of its iterator, of Collect. -/
namespace Go.Proofs.Ytcembocnkndlhaa
open Go.RowKit Go.Shelf
attribute [local go_sem] Oper.semAt_some
theorem Chunk_any (sa : Option Addr) (m c : Nat) (w : World) : Calls Try.prog 70 #[.slice sa m c, .int .i64 64] w fun e w' =>
    e = .returned (.func (.func 85) #[] #[.pointer (some ⟨w.heap.size, 0, none⟩), .pointer (some ⟨w.heap.size + 1, 0, none⟩)]) ∧ w' = (w.alloc (.cells #[.slice sa m c] 26)).alloc (.cells #[.int .i64 64] 3) := by
  go_enter Try.func70, Try.ntmps70
  go_wp2
  go_ret
  exact ⟨rfl, rfl⟩
def cnt (m : Nat) : Nat := (m + 63) / 64
def chV (b off m j : Nat) : Value := .slice (some ⟨b, off + 64 * j, none⟩) (min 64 (m - 64 * j)) (min 64 (m - 64 * j))
set_option maxRecDepth 100000 in
set_option maxHeartbeats 4000000 in
theorem chunk1_in (l Bs Bn n₀ b off m c : Nat) (sa : Option Addr) (hsa : 0 < m → sa = some ⟨b, off, none⟩) (hmc : m ≤ c) (hc : c ≤ 9223372036854775807) (hm : m ≤ 1000000) (J : List Nat → World → Prop)
    (hY : ∀ pre x A, J pre A → pre.length < cnt m → YieldAt Fence.wide 2 Try.prog l #[chV b off m x] A fun e B => e = .returned (.bool true) ∧ J (pre ++ [x]) B ∧ Below n₀ A B)
    (W : World) (hBs : ∀ A, Below n₀ W A → A.cell? ⟨Bs, 0, none⟩ = some (.slice sa m c)) (hBn : ∀ A, Below n₀ W A → A.cell? ⟨Bn, 0, none⟩ = some (.int .i64 64)) (hJ : ∀ s A B, J s A → A.grownBy B none → J s B) (h0 : J [] W) :
    CallsIn Fence.wide 3 Try.prog 85 #[.func (.yield l) #[] #[], .pointer (some ⟨Bs, 0, none⟩), .pointer (some ⟨Bn, 0, none⟩)] W fun e B => (∃ v, e = .returned v) ∧ ∃ xs, xs = List.range (cnt m) ∧ J xs B := by
  refine callsIn_of_wp Try.func85 rfl trivial ?_ rfl
  simp only [Try.ntmps85, List.size_toArray, List.length_cons, List.length_nil, Nat.reduceAdd, Nat.reduceSub, Array.replicate_succ, Array.replicate_zero, List.push_toArray, List.append_toArray, List.nil_append, List.cons_append]
  gi_wp2
  gi_loopw [4, 5] (fun i _ wr => ∃ (j p : Nat), j ≤ cnt m ∧ i = .int .i64 p ∧ Hid (p = 64 * j) ∧ J (List.range j) wr ∧ Below n₀ W wr) (fun i _ _ => m + 64 - (intOf i).toNat)
  case atStart => exact ⟨0, 0, Nat.zero_le _, rfl, Lib.hid rfl, h0, Below.refl _ _⟩
  case round =>
    obtain ⟨j, p, hj, rfl, HP, hJs, hB⟩ := hrel
    obtain ⟨wo, rfl⟩ : ∃ wo : World, wo = wr := ⟨_, rfl⟩
    have hcs := hBs wo hB
    have hcn := hBn wo hB
    have hp := HP.out
    have hcd : cnt m * 64 ≤ m + 63 ∧ m ≤ cnt m * 64 := by unfold cnt; omega
    obtain ⟨hc1, hc2⟩ := hcd
    by_cases hlt : p < m
    · obtain rfl := hsa (by omega)
      have hd : decide (p < m) = true := decide_eq_true hlt
      have hjc : j < cnt m := by omega
      have hp1 : p ≤ 64 * j := by omega
      have hp2 : 64 * j ≤ p := by omega
      clear hp
      have hpI : (p : Int) ≤ (m : Int) := by omega
      have hp0 : (0 : Int) ≤ (p : Int) := by omega
      have hpm : p ≤ m := by omega
      have hpc : p ≤ c := by omega
      have hne : (c = p) = False := eq_false (by omega)
      have hY1 := hY (List.range j) j
      rw [List.length_range] at hY1
      have hrs := List.range_succ (n := j)
      have HRS := Lib.hid hrs
      clear hrs
      have HEV := Lib.hid (show chV b off m j = .slice (some ⟨b, off + p, none⟩) (min 64 (m - p)) (min 64 (m - p)) by unfold chV; rw [← HP.out])
      gi_wp2
      refine wpIn_wide.2 ?_
      by_cases hle : 64 ≤ m - p
      · have hmn : min 64 (m - p) = 64 := by omega
        have hmi : min (64 : Int) ((m - p : Nat) : Int) = 64 := by omega
        have q1 : decide ((64 : Int) ≤ ((m - p : Nat) : Int)) = true := decide_eq_true (by omega)
        have q2 : decide (((m - p : Nat) : Int) < (64 : Int)) = false := decide_eq_false (by omega)
        rw [hmn] at HEV
        clear hmn
        refine wp_region_noPanic ?_
        refine wp_region_late (fun w' => w'.cell? ⟨Bs, 0, none⟩ = some (.slice (some ⟨b, off, none⟩) m c) ∧ w'.cell? ⟨Bn, 0, none⟩ = some (.int .i64 64)) 7 (by kernel_rfl) (⟨hcs, hcn⟩) (fun hHeld => ?_)
        refine any_take (by kernel_rfl) (i := 0) (oi := _) (v := ?_) rfl rfl (by kernel_rfl) (by kernel_rfl) (by kernel_rfl) (fun _ _ _ h => h) (Or.inl ⟨by rfl, ?_⟩) hHeld ?_
        rotate_left
        · intro w' hSw; try dsimp only at hSw
          go_simp
          try with_reducible rfl
        try simp only [puts, gets]
        refine any_take (by kernel_rfl) (i := 1) (oi := _) (v := ?_) rfl rfl (by kernel_rfl) (by kernel_rfl) (by kernel_rfl) (fun _ _ _ h => h) (Or.inl ⟨by rfl, ?_⟩) hHeld ?_
        rotate_left
        · intro w' hSw; try dsimp only at hSw
          go_simp
          try with_reducible rfl
        try simp only [puts, gets]
        refine any_take (by kernel_rfl) (i := 2) (oi := _) (v := ?_) rfl rfl (by kernel_rfl) (by kernel_rfl) (by kernel_rfl) (fun _ _ _ h => h) (Or.inl ⟨by rfl, ?_⟩) hHeld ?_
        rotate_left
        · intro w' hSw; try dsimp only at hSw
          go_simp
          try with_reducible rfl
        try simp only [puts, gets]
        refine any_take (by kernel_rfl) (i := 3) (oi := _) (v := ?_) rfl rfl (by kernel_rfl) (by kernel_rfl) (by kernel_rfl) (fun _ _ _ h => h) (Or.inl ⟨by rfl, ?_⟩) hHeld ?_
        rotate_left
        · intro w' hSw; try dsimp only at hSw
          go_simp
          try with_reducible rfl
        try simp only [puts, gets]
        refine any_take (by kernel_rfl) (i := 4) (oi := _) (v := ?_) rfl rfl (by kernel_rfl) (by kernel_rfl) (by kernel_rfl) (fun _ _ _ h => h) (Or.inl ⟨by rfl, ?_⟩) hHeld ?_
        rotate_left
        · intro w' hSw; try dsimp only at hSw
          go_simp
          try with_reducible rfl
        try simp only [puts, gets]
        refine any_take (by kernel_rfl) (i := 5) (oi := _) (v := ?_) rfl rfl (by kernel_rfl) (by kernel_rfl) (by kernel_rfl) (fun _ _ _ h => h) (Or.inl ⟨by rfl, ?_⟩) hHeld ?_
        rotate_left
        · intro w' hSw; try dsimp only at hSw
          go_simp
          try with_reducible rfl
        try simp only [puts, gets]
        refine any_take (by kernel_rfl) (i := 6) (oi := _) (v := ?_) rfl rfl (by kernel_rfl) (by kernel_rfl) (by kernel_rfl) (fun _ _ _ h => h) (Or.inl ⟨by rfl, ?_⟩) hHeld ?_
        rotate_left
        · intro w' hSw; try dsimp only at hSw
          go_simp
          try with_reducible rfl
        try simp only [puts, gets]
        refine any_done (by kernel_rfl) ?_ _
        refine NoPanic.normal ?_
        obtain ⟨fn, tmps, assign, body, hy, hR⟩ := hY1 wo.drew (hJ _ wo wo.drew hJs ⟨rfl, rfl, rfl, Nat.le_refl _, fun _ _ _ => rfl⟩) hjc
        rw [HEV.out] at hy
        gi_wp2
        refine hR.mono ?_
        rintro e w8 ⟨rfl, hJ8, hk8⟩
        have hB8 := hB.trans ((Below.refl n₀ wo).drew.trans hk8)
        have hcn8 := hBn w8 hB8
        gi_wp2
        go_roundw
        case rel => exact ⟨j + 1, p + 64, by omega, by go_num, Lib.hid (by omega), by rw [HRS.out]; exact hJ8, hB8⟩
        case measure => simp [intOf]; omega
      · have hmn : min 64 (m - p) = m - p := by omega
        have hmi : min (64 : Int) ((m - p : Nat) : Int) = ((m - p : Nat) : Int) := by omega
        have q1 : decide ((64 : Int) ≤ ((m - p : Nat) : Int)) = false := decide_eq_false (by omega)
        have q2 : decide (((m - p : Nat) : Int) < (64 : Int)) = true := decide_eq_true (by omega)
        rw [hmn] at HEV
        clear hmn
        refine wp_region_noPanic ?_
        refine wp_region_late (fun w' => w'.cell? ⟨Bs, 0, none⟩ = some (.slice (some ⟨b, off, none⟩) m c) ∧ w'.cell? ⟨Bn, 0, none⟩ = some (.int .i64 64)) 7 (by kernel_rfl) (⟨hcs, hcn⟩) (fun hHeld => ?_)
        refine any_take (by kernel_rfl) (i := 0) (oi := _) (v := ?_) rfl rfl (by kernel_rfl) (by kernel_rfl) (by kernel_rfl) (fun _ _ _ h => h) (Or.inl ⟨by rfl, ?_⟩) hHeld ?_
        rotate_left
        · intro w' hSw; try dsimp only at hSw
          go_simp
          try with_reducible rfl
        try simp only [puts, gets]
        refine any_take (by kernel_rfl) (i := 1) (oi := _) (v := ?_) rfl rfl (by kernel_rfl) (by kernel_rfl) (by kernel_rfl) (fun _ _ _ h => h) (Or.inl ⟨by rfl, ?_⟩) hHeld ?_
        rotate_left
        · intro w' hSw; try dsimp only at hSw
          go_simp
          try with_reducible rfl
        try simp only [puts, gets]
        refine any_take (by kernel_rfl) (i := 2) (oi := _) (v := ?_) rfl rfl (by kernel_rfl) (by kernel_rfl) (by kernel_rfl) (fun _ _ _ h => h) (Or.inl ⟨by rfl, ?_⟩) hHeld ?_
        rotate_left
        · intro w' hSw; try dsimp only at hSw
          go_simp
          try with_reducible rfl
        try simp only [puts, gets]
        refine any_take (by kernel_rfl) (i := 3) (oi := _) (v := ?_) rfl rfl (by kernel_rfl) (by kernel_rfl) (by kernel_rfl) (fun _ _ _ h => h) (Or.inl ⟨by rfl, ?_⟩) hHeld ?_
        rotate_left
        · intro w' hSw; try dsimp only at hSw
          go_simp
          try with_reducible rfl
        try simp only [puts, gets]
        refine any_take (by kernel_rfl) (i := 4) (oi := _) (v := ?_) rfl rfl (by kernel_rfl) (by kernel_rfl) (by kernel_rfl) (fun _ _ _ h => h) (Or.inl ⟨by rfl, ?_⟩) hHeld ?_
        rotate_left
        · intro w' hSw; try dsimp only at hSw
          go_simp
          try with_reducible rfl
        try simp only [puts, gets]
        refine any_take (by kernel_rfl) (i := 5) (oi := _) (v := ?_) rfl rfl (by kernel_rfl) (by kernel_rfl) (by kernel_rfl) (fun _ _ _ h => h) (Or.inl ⟨by rfl, ?_⟩) hHeld ?_
        rotate_left
        · intro w' hSw; try dsimp only at hSw
          go_simp
          try with_reducible rfl
        try simp only [puts, gets]
        refine any_take (by kernel_rfl) (i := 6) (oi := _) (v := ?_) rfl rfl (by kernel_rfl) (by kernel_rfl) (by kernel_rfl) (fun _ _ _ h => h) (Or.inl ⟨by rfl, ?_⟩) hHeld ?_
        rotate_left
        · intro w' hSw; try dsimp only at hSw
          go_simp
          try with_reducible rfl
        try simp only [puts, gets]
        refine any_done (by kernel_rfl) ?_ _
        refine NoPanic.normal ?_
        obtain ⟨fn, tmps, assign, body, hy, hR⟩ := hY1 wo.drew (hJ _ wo wo.drew hJs ⟨rfl, rfl, rfl, Nat.le_refl _, fun _ _ _ => rfl⟩) hjc
        rw [HEV.out] at hy
        gi_wp2
        refine hR.mono ?_
        rintro e w8 ⟨rfl, hJ8, hk8⟩
        have hB8 := hB.trans ((Below.refl n₀ wo).drew.trans hk8)
        have hcn8 := hBn w8 hB8
        gi_wp2
        go_roundw
        case rel => exact ⟨j + 1, p + 64, by omega, by go_num, Lib.hid (by omega), by rw [HRS.out]; exact hJ8, hB8⟩
        case measure => simp [intOf]; omega
    · have hjc : j = cnt m := by omega
      subst hjc
      have hd : decide (p < m) = false := decide_eq_false hlt
      gi_wp2
      go_end0
      exact ⟨⟨_, rfl⟩, _, rfl, hJs⟩
theorem chunk_told (Bs Bn n₀ b off m c : Nat) (sa : Option Addr) (hsa : 0 < m → sa = some ⟨b, off, none⟩) (hmc : m ≤ c) (hc : c ≤ 9223372036854775807) (hm : m ≤ 1000000) (w : World) (hn : n₀ ≤ w.heap.size) (hBs : ∀ A, Below n₀ w A → A.cell? ⟨Bs, 0, none⟩ = some (.slice sa m c)) (hBn : ∀ A, Below n₀ w A → A.cell? ⟨Bn, 0, none⟩ = some (.int .i64 64)) :
    SeqTold Fence.wide 3 Try.prog 85 #[.pointer (some ⟨Bs, 0, none⟩), .pointer (some ⟨Bn, 0, none⟩)] (fun j => #[chV b off m j]) (Below n₀) (fun xs _ => xs = List.range (cnt m)) (cnt m) w := fun l J W hW hJ hY h0 =>
  chunk1_in l Bs Bn n₀ b off m c sa hsa hmc hc hm J hY W (fun A hA => hBs A ((hW.mono hn).trans hA)) (fun A hA => hBn A ((hW.mono hn).trans hA)) hJ h0
set_option maxHeartbeats 4000000 in
set_option maxRecDepth 100000 in
theorem AppendSeq_in (Bs Bn b off m c : Nat) (sa : Option Addr) (hsa : 0 < m → sa = some ⟨b, off, none⟩) (hmc : m ≤ c) (hc : c ≤ 9223372036854775807) (hm : m ≤ 1000000) (w : World) (hBs : w.cell? ⟨Bs, 0, none⟩ = some (.slice sa m c)) (hBn : w.cell? ⟨Bn, 0, none⟩ = some (.int .i64 64)) :
    CallsIn Fence.wide 4 Try.prog 84 #[.slice none 0 0, .func (.func 85) #[] #[.pointer (some ⟨Bs, 0, none⟩), .pointer (some ⟨Bn, 0, none⟩)]] w fun e w' => ∃ u, e = .returned u ∧ w'.ownsRow (w.heap.size + 1) 26 1 u (cnt m) ((List.range (cnt m)).map (chV b off m)) ∧ Below w.heap.size w w' := by
  have hcm : cnt m ≤ 100000 := by unfold cnt; omega
  refine callsIn_of_wp_marks Try.func84 rfl trivial ?_ rfl
  simp only [Try.ntmps84, List.size_toArray, List.length_cons, List.length_nil, Nat.reduceAdd, Nat.reduceSub, Array.replicate_succ, Array.replicate_zero, List.push_toArray, List.append_toArray, List.nil_append, List.cons_append]
  have gA := heap_alloc_new w (.cells #[.slice none 0 0] 22)
  have bA := below_new w (.cells #[.slice none 0 0] 22)
  have hsA : w.heap.size + 1 ≤ (w.alloc (.cells #[.slice none 0 0] 22)).heap.size := by simp
  have hseq := chunk_told Bs Bn w.heap.size b off m c sa hsa hmc hc hm (w.alloc (.cells #[.slice none 0 0] 22)) (by omega) (fun A hA => cell_keep (bA.trans hA) hBs) (fun A hA => cell_keep (bA.trans hA) hBn)
  obtain ⟨w3, hw3⟩ : ∃ x : World, x = w.alloc (.cells #[.slice none 0 0] 22) := ⟨_, rfl⟩
  rw [← hw3] at gA bA hsA hseq
  gi_wp2_with fail
  rw [← hw3]
  clear hw3
  refine range_told (α := Nat) rfl (by decide) (gf := 85) (lb := #[.pointer (some ⟨Bs, 0, none⟩), .pointer (some ⟨Bn, 0, none⟩)]) rfl trivial (enters_of Try.func85 (by kernel_rfl) rfl) hseq belowK_t (belowK_b (w := w3) (by omega)) (Below.refl _ _) (fun _ => rfl) (fun _ _ _ _ hs _ _ => hs)
    (fun pre W => (∃ v, W.heap[w.heap.size]? = some (.cells #[v] 22 (0, 0)) ∧ W.ownsRow (w.heap.size + 1) 26 1 v pre.length (pre.map (chV b off m))) ∧ Below w.heap.size w W)
    (OwnFrom.and (fun _ _ _ _ hs hg hr => by obtain ⟨v, h1, h2⟩ := hs; exact ⟨v, cells_grown h1 hg fun r e => (hr r e).2, own_grown h2 hg fun r e => (hr r e).2⟩) (ownFrom_below (Nat.le_refl _) (by omega)))
    ⟨⟨_, gA, World.ownsRow_nil _ _ _ _⟩, bA⟩
    (fun x a' _ => a' = { tmps := #[.slice none 0 0, .func (.func 85) #[] #[.pointer (some ⟨Bs, 0, none⟩), .pointer (some ⟨Bn, 0, none⟩)], .pointer (some ⟨w.heap.size, 0, none⟩), undef, .slice none 0 0, chV b off m x, .func (.func 85) #[] #[.pointer (some ⟨Bs, 0, none⟩), .pointer (some ⟨Bn, 0, none⟩)], chV b off m x, undef, undef, undef, undef, undef], defers := [] })
    (fun _ _ _ _ _ _ hs _ _ => hs) ?assign ?body ?done
  case assign =>
    rintro l pre x W K hi hK
    gi_wp2
    exact hK _ _ (KeepsFrom.refl _ _) (Below.refl _ _) hi rfl
  case body =>
    rintro l pre x a' W hl ⟨⟨v, hv, hO⟩, hB⟩ rfl hlt
    obtain ⟨va, vc, rfl⟩ := own_form hO
    obtain ⟨i0, hi, hz0, hz1, hz2⟩ := info_parts info26
    have hcv := cell_at (j := 0) hv rfl
    have hOA := own_keep hO (below_new W (.cells #[chV b off m x] 26))
    have hsrc := cell_one' W (chV b off m x) 26
    have hone : ∀ u ∈ [chV b off m x], u.oneCell' = true := by intro u hu; simp at hu; subst hu; rfl
    have hm1 : pre.length + 1 ≤ maxLen := by unfold maxLen; omega
    have hm2 : (pre.length + 1) * 24 ≤ 140737488355328 := by omega
    have hbv := block_lt hv
    have hbs : w.heap.size + 1 ≤ (W.alloc (.cells #[chV b off m x] 26)).heap.size := by simp; omega
    obtain ⟨X, hX⟩ : ∃ X, chV b off m x = X := ⟨_, rfl⟩
    have hXs : ∃ p q r, X = .slice p q r := ⟨_, _, _, hX.symm⟩
    rw [hX] at hOA hsrc hone hbs ⊢
    have HX := Lib.hid hX
    clear hX
    obtain ⟨xp, xq, xr, rfl⟩ := hXs
    gi_wp2_with (gi_at_builtin; refine wpListIn_append_own_at _ rfl (.tmp 8) (.tmp 10) 22 rfl (w.heap.size + 1) 26 i0 (.slice none 0 0) 1 24 Try.underlying22 hi hz0 hz1 hz2 rfl (by decide) (.slice va pre.length vc) pre.length (pre.map (chV b off m)) rfl hOA ⟨W.heap.size, 0, none⟩ 1 1 [.slice xp xq xr] rfl rfl hsrc hone hm1 hm2 hbs ?_; intro v' w6 hown6 hgrow6 hnil6 hat6; obtain ⟨g', cap', hv', hgb⟩ := own_succ hown6; subst hv'; have hb6 : w6.heap[w.heap.size]? = some (.cells #[.slice va pre.length vc] 22 (0, 0)) := (hgrow6.block _ (by simp; omega) (fun e => by have := (own_block26 hO _ e.symm).1; omega)).trans (block_keep hv (below_new W _)); have hc6 := cell_at (j := 0) hb6 rfl; have hf6 := free_at (j := 0) hb6)
    have hkk : ∀ k, k < W.heap.size → k ≠ w.heap.size → Value.ownBlock (.slice va pre.length vc) ≠ some k → (w6.setCell ⟨w.heap.size, 0, none⟩ (.slice (some ⟨g', 0, none⟩) (pre.length + 1) cap')).heap[k]? = W.heap[k]? := fun k hk1 hk2 hk3 =>
      (heap_setCell_other w6 ⟨w.heap.size, 0, none⟩ k _ hk2).trans ((hgrow6.block k (by simp; omega) (fun e => hk3 e.symm)).trans ((below_new W _).block k hk1))
    have hkp := round_kept (B := w3.heap.size) (n₀ := w.heap.size) (own := Value.ownBlock (.slice va pre.length vc)) (W := W) (W' := w6.setCell ⟨w.heap.size, 0, none⟩ (.slice (some ⟨g', 0, none⟩) (pre.length + 1) cap')) (by have := hgrow6.size; simp [World.setCell] at this ⊢; omega) hgrow6.os hgrow6.tape hgrow6.output hv (by decide) (Nat.le_refl _) (fun k e => ⟨by have := (own_block26 hO k e).1; omega, (own_block26 hO k e).2⟩) hkk
    refine ⟨hkp.1, hkp.2.1, ⟨_, set_block hb6 _, ?_⟩, hB.trans hkp.2.1⟩
    rw [← HX.out] at hown6
    exact own_store hown6 (p := ⟨w.heap.size, 0, none⟩) (by show w.heap.size < w.heap.size + 1; omega) _
  case done =>
    rintro D ys W hD rfl ⟨⟨v, hv, hO⟩, hB⟩ hK
    rw [List.length_range] at hO
    obtain ⟨va, vc, rfl⟩ := own_form hO
    have hcv := cell_at (j := 0) hv rfl
    gi_wp2
    refine ⟨by simp, .inl ⟨_, _, rfl, run_takeDeferred hK, ?_⟩⟩
    exact ⟨_, results_tmp rfl _ _ _, _, rfl, own_grown hO (grownBy_putObj' W D _) (fun r e => by cases e; exact ⟨_, hK, rfl⟩), hB.trans (belowK_b (w := w3) (by omega) W D _ _ hD hK rfl rfl)⟩
set_option maxHeartbeats 2000000 in
theorem Collect_any (Bs Bn b off m c : Nat) (sa : Option Addr) (hsa : 0 < m → sa = some ⟨b, off, none⟩) (hmc : m ≤ c) (hc : c ≤ 9223372036854775807) (hm : m ≤ 1000000) (w : World) (hBs : w.cell? ⟨Bs, 0, none⟩ = some (.slice sa m c)) (hBn : w.cell? ⟨Bn, 0, none⟩ = some (.int .i64 64)) :
    Calls Try.prog 69 #[.func (.func 85) #[] #[.pointer (some ⟨Bs, 0, none⟩), .pointer (some ⟨Bn, 0, none⟩)]] w fun e w' => ∃ u, e = .returned u ∧ w'.ownsRow (w.heap.size + 1) 26 1 u (cnt m) ((List.range (cnt m)).map (chV b off m)) ∧ Below w.heap.size w w' := by
  go_enter Try.func69, Try.ntmps69
  go_wp2_with fail
  refine (callsIn_wide.1 (AppendSeq_in Bs Bn b off m c sa hsa hmc hc hm _ hBs hBn)).mono ?_
  rintro e w1 ⟨u, rfl, hO, hb⟩
  obtain ⟨va, vc, rfl⟩ := own_form hO
  go_wp2
  go_ret
  exact ⟨_, rfl, hO, hb⟩
end Go.Proofs.Ytcembocnkndlhaa
/- What Append computes, and what its walk needs: worlds that keep all but one block, the order of writes. -/
namespace Go.Proofs.Ytcembocnkndlhaa
open Go.RowKit Go.Shelf
def zOf (d : Dk) (k : Int) : Nat := (walkL (pagesOf d) 400 k.toNat).2
theorem endD_ok {d : Dk} {k : Int} (h : failure d k = 0) : endD d k = (zOf d k : Nat) := by unfold endD zOf; rw [if_neg (by simp [h])]
def appendD (d : Dk) (k : Int) (r : List UInt8) : Dk × Int :=
  if failure d k ≠ 0 then (noDisk, failure d k) else if zOf d k + pagesN r.length > 400 then (noDisk, 2) else (⟨d.pages, d.writes ++ appendW (zOf d k) r, false⟩, 0)
/-- The pages as Append hands them to Write. -/
def partsL (r : List UInt8) : List (List UInt8) := firstPage r :: (List.range (cnt (r.length - 55))).map fun j => ((r.drop 55).drop (64 * j)).take 64
theorem cnt_pages (r : List UInt8) : cnt (r.length - 55) = pagesN r.length - 1 := by unfold cnt pagesN; omega
theorem length_parts (r : List UInt8) : (partsL r).length = pagesN r.length := by
  unfold partsL
  rw [List.length_cons, List.length_map, List.length_range, cnt_pages]
  have := pagesN_pos r.length
  omega
theorem full_take (l : List UInt8) : full (l.take 64) = full l := by
  unfold full
  rw [List.take_take, List.length_take, Nat.min_self]
  congr 1
  congr 1
  omega
theorem chunks_range : ∀ (k : Nat) (l : List UInt8), chunks k l = (List.range k).map fun j => full (l.drop (64 * j))
  | 0, _ => rfl
  | k + 1, l => by
    rw [chunks, chunks_range k, List.range_succ_eq_map, List.map_cons, List.map_map]
    congr 1
    apply List.map_congr_left
    intro j _
    simp only [Function.comp_apply, List.drop_drop]
    congr 2
    omega
theorem frame_parts (r : List UInt8) : frame r = (partsL r).map full := by
  unfold frame partsL restPages
  rw [List.map_cons, full_self (length_first r), chunks_range, cnt_pages, List.map_map]
  congr 1
  apply List.map_congr_left
  intro j _
  simp only [Function.comp_apply]
  rw [full_take]
theorem parts_short {r : List UInt8} : ∀ p ∈ partsL r, p.length ≤ 64 := by
  intro p hp
  rcases List.mem_cons.1 hp with rfl | hp
  · rw [length_first r]; exact Nat.le_refl _
  · obtain ⟨j, -, rfl⟩ := List.mem_map.1 hp
    rw [List.length_take]; omega
def wOf (z : Nat) (L : List (List UInt8)) (i : Fin L.length) : Wt := ⟨(z : Int) + (i.1 : Int), full L[i]⟩
theorem backw_fin : ∀ (z : Nat) (L : List (List UInt8)), backw z (L.map full) = ((List.finRange L.length).map (wOf z L)).reverse
  | _, [] => rfl
  | z, p :: L => by
    rw [List.map_cons, backw, backw_fin (z + 1) L]
    show _ = (List.map (wOf z (p :: L)) (List.finRange (L.length + 1))).reverse
    rw [List.finRange_succ, List.map_cons, List.reverse_cons, List.map_map]
    congr 1
    · congr 1
      apply List.map_congr_left
      intro i _
      unfold wOf
      simp only [Function.comp_apply, Fin.val_succ]
      refine Wt.ext' ?_ rfl
      show ((z + 1 : Nat) : Int) + (i.1 : Int) = (z : Int) + ((i.1 + 1 : Nat) : Int)
      omega
def endW (z : Nat) (r : List UInt8) : List Wt := if z + pagesN r.length < 400 then [⟨((z + pagesN r.length : Nat) : Int), full []⟩] else []
theorem appendW_down (z : Nat) (r : List UInt8) : appendW z r = endW z r ++ (down (partsL r).length 0).map (wOf z (partsL r)) := by
  unfold appendW endW
  rw [frame_parts, backw_fin]
  unfold down
  rw [List.drop_zero, List.map_reverse]
/-! Worlds that keep all blocks below N but b. -/
structure KB (b N : Nat) (A B : World) : Prop where
  os : B.os = A.os
  tape : B.tape = A.tape
  output : B.output = A.output
  size : A.heap.size ≤ B.heap.size
  block : ∀ k, k < N → k ≠ b → B.heap[k]? = A.heap[k]?
theorem KB.refl (b N : Nat) (A : World) : KB b N A A := ⟨rfl, rfl, rfl, Nat.le_refl _, fun _ _ _ => rfl⟩
theorem KB.trans {b N : Nat} {A B C : World} (h : KB b N A B) (k : KB b N B C) : KB b N A C :=
  ⟨k.os.trans h.os, k.tape.trans h.tape, k.output.trans h.output, Nat.le_trans h.size k.size, fun i h1 h2 => (k.block i h1 h2).trans (h.block i h1 h2)⟩
theorem KB.of_below {b N : Nat} {A B : World} (h : Below A.heap.size A B) (hn : N ≤ A.heap.size) : KB b N A B := ⟨h.os, h.tape, h.output, h.size, fun k hk _ => h.block k (Nat.lt_of_lt_of_le hk hn)⟩
theorem KB.put {b : Nat} {w : World} (W : World) (l : Nat) (o o' : Obj) (hl : w.heap.size ≤ l) (h : W.heap[l]? = some o) (hc : o.isCells = false) (hw : o.isWalk = false) : KB b w.heap.size W (W.putObj l o') := by
  have hb := belowK_b (w := w) (n₀ := w.heap.size) (Nat.le_refl _) W l o o' hl h hc hw
  exact ⟨hb.os, hb.tape, hb.output, hb.size, fun k hk _ => hb.block k hk⟩
theorem KB.set {b N : Nat} {A B : World} (h : KB b N A B) (o : Nat) (x : Value) : KB b N A (B.setCell ⟨b, o, none⟩ x) :=
  ⟨h.os, h.tape, h.output, by simpa [World.setCell] using h.size, fun k h1 h2 => (heap_setCell_other B ⟨b, o, none⟩ k _ h2).trans (h.block k h1 h2)⟩
theorem KB.set3 {b N : Nat} {A B : World} (h : KB b N A B) (x y z : Value) : KB b N A (((B.setCell ⟨b, 0, none⟩ x).setCell ⟨b, 1, none⟩ y).setCell ⟨b, 2, none⟩ z) := ((h.set 0 x).set 1 y).set 2 z
theorem KB.below {b N : Nat} {A B : World} (h : KB b N A B) (hn : b ≤ N) : Below b A B := ⟨h.os, h.tape, h.output, h.size, fun k hk => h.block k (by omega) (by omega)⟩
theorem KB.grown {b N : Nat} {A B : World} {row : Option Nat} {w : World} (hg : A.grownBy B row) (hN : N ≤ w.heap.size) (hs : w.heap.size ≤ A.heap.size) (hr : ∀ r, row = some r → w.heap.size ≤ r) : KB b N A B :=
  ⟨hg.os, hg.tape, hg.output, hg.size, fun k hk _ => hg.block k (by omega) fun e => by have := hr k e.symm; omega⟩
/-- OffDisk does not speak of blocks that are no cells. -/
theorem OffDisk.grown {P : Nat → Prop} {A B : World} {row : Option Nat} {v : Value} {d : Dk} (h : OffDisk P A v d) (hg : A.grownBy B row) (hr : ∀ r, row = some r → ∃ o : Obj, A.heap[r]? = some o ∧ o.isCells = false) : OffDisk P B v d := by
  obtain ⟨pv, wv, ps, hv, hl, hAll⟩ := h
  refine ⟨pv, wv, ps, hv, hl, fun X hX => ?_⟩
  have plain : (∀ r, row = some r → P r) → Agree P A X := fun hP i hi hB => (hX i (Nat.lt_of_lt_of_le hi hg.size) hB).trans (hg.block i hi fun e => hB (hP i e.symm))
  cases hrow : row with
  | none => exact hAll X (plain fun r e => by rw [hrow] at e; cases e)
  | some r =>
    by_cases hP : P r
    · exact hAll X (plain fun q e => by rw [hrow] at e; cases e; exact hP)
    · obtain ⟨o, ho, hc⟩ := hr r hrow
      have hrA : r < A.heap.size := (Array.getElem?_eq_some_iff.1 ho).1
      have hXr := hX r (Nat.lt_of_lt_of_le hrA hg.size) hP
      have hrX : r < X.heap.size := by
        rcases Nat.lt_or_ge r X.heap.size with h | h
        · exact h
        · rw [Array.getElem?_eq_none h, eq_comm, Array.getElem?_eq_none_iff] at hXr
          have := hg.size
          omega
      have h2 : Agree P A (X.putObj r o) := by
        intro i hi hB
        by_cases hir : i = r
        · rw [hir]
          rw [World.putObj_heap_same hrX, ho]
        · rw [World.putObj_heap_other hir, hX i (Nat.lt_of_lt_of_le hi hg.size) hB]
          exact hg.block i hi fun e => hir (by rw [hrow] at e; cases e; rfl)
      have hk : Keeps (X.putObj r o) X := by
        intro p x hp
        by_cases hpr : p.block = r
        · unfold World.cell? at hp
          rw [hpr, World.putObj_heap_same hrX] at hp
          cases o <;> first | (cases hp; done) | (cases hc; done)
        · unfold World.cell? at hp ⊢
          rwa [World.putObj_heap_other hpr] at hp
      obtain ⟨a1, a2, a3⟩ := hAll _ h2
      exact ⟨a1.keeps hk, a2.keep hk, fun i p x hp hx => ⟨(a3 i p x hp hx).1, IsRows.keep (a3 i p x hp hx).2 hk⟩⟩
theorem off_to {B : Nat → Prop} {d' : Dk} {r : Int} {res : Dk × Int} {w w' : World} {e : Ending} (h : DiskErrOff B res w e w') (hr : Hid (res = (d', r))) : ∃ pa pc wa wc, e = .returned (.tuple #[.agg #[.slice pa d'.pages.length pc, .slice wa d'.writes.length wc, .bool d'.down], .int .i64 r]) ∧ OffDisk B w' (.agg #[.slice pa d'.pages.length pc, .slice wa d'.writes.length wc, .bool d'.down]) d' ∧ Below w.heap.size w w' := by
  obtain ⟨v, rfl, hD, hB⟩ := h
  rw [hr.out] at hD ⊢
  dsimp only at hD ⊢
  obtain ⟨pa, pc, wa, wc, rfl, _⟩ := hD.is.shape
  exact ⟨pa, pc, wa, wc, rfl, hD, hB⟩
theorem off_set3 {B : Nat → Prop} {w : World} {v : Value} {d : Dk} (h : OffDisk B w v d) {β : Nat} (hβ : B β) (x y z : Value) : OffDisk B (((w.setCell ⟨β, 0, none⟩ x).setCell ⟨β, 1, none⟩ y).setCell ⟨β, 2, none⟩ z) v d :=
  ((h.store (p := ⟨β, 0, none⟩) hβ x).store (p := ⟨β, 1, none⟩) hβ y).store (p := ⟨β, 2, none⟩) hβ z
theorem formed_more {d : Dk} {ws : List Wt} (hf : formed d = true) (h : ∀ w ∈ ws, 0 ≤ w.at_ ∧ w.at_ < 400 ∧ w.data.length = 64) : formed ⟨d.pages, d.writes ++ ws, false⟩ = true := by
  rw [formed_iff] at hf ⊢
  refine ⟨hf.1, hf.2.1, fun w hw => ?_, fun e => by cases e⟩
  rcases List.mem_append.1 hw with hw | hw
  · exact hf.2.2.1 w hw
  · exact h w hw
theorem endW_ok {z : Nat} {r : List UInt8} : ∀ w ∈ endW z r, 0 ≤ w.at_ ∧ w.at_ < 400 ∧ w.data.length = 64 := by
  intro w hw
  unfold endW at hw
  split at hw
  · simp at hw; subst hw; exact ⟨by dsimp only; omega, by dsimp only; omega, length_full _⟩
  · simp at hw
theorem round_write {d : Dk} {z : Nat} {r : List UInt8} (hf : formed d = true) (hz : z + pagesN r.length ≤ 400) (pre : List (Fin (partsL r).length)) (i : Fin (partsL r).length) :
    writeD ⟨d.pages, d.writes ++ endW z r ++ pre.map (wOf z (partsL r)), false⟩ ((z : Int) + (i.1 : Int)) (partsL r)[i] = (⟨d.pages, d.writes ++ endW z r ++ (pre ++ [i]).map (wOf z (partsL r)), false⟩, 0) := by
  have hi : i.1 < pagesN r.length := by have := i.2; have := length_parts r; omega
  have ok : ∀ w ∈ endW z r ++ pre.map (wOf z (partsL r)), 0 ≤ w.at_ ∧ w.at_ < 400 ∧ w.data.length = 64 := by
    intro w hw
    rcases List.mem_append.1 hw with hw | hw
    · exact endW_ok w hw
    · obtain ⟨j, -, rfl⟩ := List.mem_map.1 hw
      have hj : j.1 < pagesN r.length := by have := j.2; have := length_parts r; omega
      exact ⟨by unfold wOf; dsimp only; omega, by unfold wOf; dsimp only; omega, length_full _⟩
  have hfm := formed_more hf ok
  rw [← List.append_assoc] at hfm
  rw [writeD_ok (data := (partsL r)[i]) hfm rfl (by omega) (by omega) (parts_short _ (List.getElem_mem i.2))]
  rw [List.map_append, ← List.append_assoc]
  rfl
theorem end_write {d : Dk} {z : Nat} {r : List UInt8} (hf : formed d = true) (hd : d.down = false) (hz : z + pagesN r.length < 400) : writeD d ((z + pagesN r.length : Nat) : Int) [] = (⟨d.pages, d.writes ++ endW z r, false⟩, 0) := by
  rw [writeD_ok hf hd (by omega) (by omega) (by simp)]
  unfold endW
  rw [if_pos hz, hd]
end Go.Proofs.Ytcembocnkndlhaa
/- The walk of Append: its refusals. -/
namespace Go.Proofs.Ytcembocnkndlhaa
open Go.RowKit Go.Shelf
attribute [local go_sem] Oper.semAt_some
theorem box_at2 (w : World) (x y z : Value) : (((w.alloc (.cells #[x, y, z] 25)).alloc (.cells #[.slice none 0 0, .slice none 0 0, .bool false] 25))).heap[w.heap.size + 1]? = some (.cells #[.slice none 0 0, .slice none 0 0, .bool false] 25 (0, 0)) := by
  have := heap_alloc_new (w.alloc (.cells #[x, y, z] 25)) (.cells #[.slice none 0 0, .slice none 0 0, .bool false] 25)
  simpa using this
set_option maxHeartbeats 2000000 in
set_option maxRecDepth 100000 in
theorem Append_err (v : Value) (d : Dk) (k : Int) (bv : Value) (r : List UInt8) (w : World) (h : IsDisk w v d) (hb : IsBytes w bv r) (hf : failure d k ≠ 0) : Calls Try.prog 43 #[v, .int .i64 k, bv] w (DiskErr (appendD d k r) w) := by
  have h0 := h
  obtain ⟨pa, pc, wa, wc, rfl, -, -, -⟩ := h.shape
  obtain ⟨ba, bc, rfl, -, mb⟩ := hb
  have b1 := below_new w (.cells #[.slice pa d.pages.length pc, .slice wa d.writes.length wc, .bool d.down] 25)
  have b2 := below_new (w.alloc (.cells #[.slice pa d.pages.length pc, .slice wa d.writes.length wc, .bool d.down] 25)) (.cells #[.slice none 0 0, .slice none 0 0, .bool false] 25)
  have b0 := below_trans b1 b2
  have g0 := block_keep (heap_alloc_new w (.cells #[.slice pa d.pages.length pc, .slice wa d.writes.length wc, .bool d.down] 25)) b2
  have g1 := box_at2 w (.slice pa d.pages.length pc) (.slice wa d.writes.length wc) (.bool d.down)
  obtain ⟨wb, hwb⟩ : ∃ x : World, x = (w.alloc (.cells #[.slice pa d.pages.length pc, .slice wa d.writes.length wc, .bool d.down] 25)).alloc (.cells #[.slice none 0 0, .slice none 0 0, .bool false] 25) := ⟨_, rfl⟩
  rw [← hwb] at b0 g0 g1
  clear b1 b2
  obtain ⟨y0, y1, y2, -, -, -⟩ := Box3.of g0
  have HR := Lib.hid (show appendD d k r = (noDisk, failure d k) from if_pos hf)
  obtain ⟨f, hr⟩ : ∃ f, failure d k = f := ⟨_, rfl⟩
  have hq : (f != 0) = true := by rw [← hr]; simpa using hf
  rw [hr] at HR
  have HRR := Lib.hid hr
  clear hf hr
  go_enter Try.func43, Try.ntmps43
  go_wp2_with fail
  rw [← hwb]
  clear hwb
  refine (readable_any _ d k _ (h0.keep b0)).mono ?_
  rintro e w1 ⟨rfl, b1⟩
  rw [HRR.out]
  obtain ⟨u0, u1, u2, uf0, uf1, uf2⟩ := Box3.of (block_keep g1 b1)
  go_wp2
  refine bodyPost_ret (v := .tuple #[zeroV, .int .i64 f]) (by simp [results, Try.results43, go_sem, zeroV, u0, u1, u2]) rfl ?_
  refine ⟨zeroV, by rw [HR.out], by rw [HR.out]; exact IsDisk.zero _, ?_⟩
  exact (((below_trans b0 b1).setCell (p := ⟨w.heap.size + 1, 0, none⟩) (by simp) _).setCell (p := ⟨w.heap.size + 1, 1, none⟩) (by simp) _).setCell (p := ⟨w.heap.size + 1, 2, none⟩) (by simp) _
theorem pages_ts {v : Value} {l : List UInt8} {w : World} {Q : Ending → World → Prop} (h : IsBytes w v l) (hl : l.length ≤ 1000000) {p : Nat} (hp : Hid (pagesN l.length = p)) (q : Q (.returned (.int .i64 p)) w) : Calls Try.prog 44 #[v] w Q :=
  (Pages_any v l w h (by omega)).mono fun e w' ⟨he, hw⟩ => by
    subst he hw
    rw [hp.out]
    exact q
set_option maxHeartbeats 2000000 in
set_option maxRecDepth 100000 in
theorem Append_lim (v : Value) (d : Dk) (k : Int) (bv : Value) (r : List UInt8) (w : World) (h : IsDisk w v d) (hb : IsBytes w bv r) (hl : r.length ≤ 1000000) (hf : failure d k = 0) (hz : zOf d k + pagesN r.length > 400) : Calls Try.prog 43 #[v, .int .i64 k, bv] w (DiskErr (appendD d k r) w) := by
  have h0 := h
  have hb0 := hb
  obtain ⟨pa, pc, wa, wc, rfl, -, -, -⟩ := h.shape
  obtain ⟨ba, bc, rfl, -, mb⟩ := hb
  have b1 := below_new w (.cells #[.slice pa d.pages.length pc, .slice wa d.writes.length wc, .bool d.down] 25)
  have b2 := below_new (w.alloc (.cells #[.slice pa d.pages.length pc, .slice wa d.writes.length wc, .bool d.down] 25)) (.cells #[.slice none 0 0, .slice none 0 0, .bool false] 25)
  have b0 := below_trans b1 b2
  have g0 := block_keep (heap_alloc_new w (.cells #[.slice pa d.pages.length pc, .slice wa d.writes.length wc, .bool d.down] 25)) b2
  have g1 := box_at2 w (.slice pa d.pages.length pc) (.slice wa d.writes.length wc) (.bool d.down)
  obtain ⟨wb, hwb⟩ : ∃ x : World, x = (w.alloc (.cells #[.slice pa d.pages.length pc, .slice wa d.writes.length wc, .bool d.down] 25)).alloc (.cells #[.slice none 0 0, .slice none 0 0, .bool false] 25) := ⟨_, rfl⟩
  rw [← hwb] at b0 g0 g1
  clear b1 b2
  obtain ⟨y0, y1, y2, -, -, -⟩ := Box3.of g0
  have HR := Lib.hid (show appendD d k r = (noDisk, 2) by unfold appendD; rw [if_neg (by simp [hf]), if_pos hz])
  have HE := Lib.hid (endD_ok hf)
  obtain ⟨z, hzz⟩ : ∃ z, zOf d k = z := ⟨_, rfl⟩
  obtain ⟨p, hp⟩ : ∃ p, pagesN r.length = p := ⟨_, rfl⟩
  rw [hzz] at HE
  rw [hzz, hp] at hz
  have HP := Lib.hid hp
  have HF := Lib.hid hf
  have hz4 : z ≤ 500 := by
    rw [← hzz]
    obtain ⟨-, -, e1, e2⟩ := failure_zero hf
    have := (walkL_chain (pagesOf d) 400 k.toNat (by omega)).1.top (by omega)
    unfold zOf; omega
  have hp4 : p ≤ 1000000 := by rw [← hp]; unfold pagesN; omega
  have hq : decide ((400 : Int) < (z : Int) + (p : Int)) = true := decide_eq_true (by omega)
  have hw4 : IntKind.i64.wrap ((z : Int) + (p : Int)) = (z : Int) + (p : Int) := by rw [IntKind.wrap_i64]; omega
  clear hf hzz hp
  go_enter Try.func43, Try.ntmps43
  go_wp2_with fail
  rw [← hwb]
  clear hwb
  refine (readable_any _ d k _ (h0.keep b0)).mono ?_
  rintro e w1 ⟨rfl, b1⟩
  rw [HF.out]
  have b01 := below_trans b0 b1
  have g01 := block_keep g0 b1
  clear y0 y1 y2
  obtain ⟨y0, y1, y2, -, -, -⟩ := Box3.of g01
  go_wp2_with fail
  refine (End_any _ d k _ (h0.keep b01)).mono ?_
  rintro e w2 ⟨rfl, b2⟩
  rw [HE.out]
  clear y0 y1 y2
  go_upto_region 5 with fail
  have gA := heap_alloc_new w2 (.cells #[.int .i64 z] 3)
  have bA := below_new w2 (.cells #[.int .i64 z] 3)
  obtain ⟨wA, hwA⟩ : ∃ x : World, x = w2.alloc (.cells #[.int .i64 z] 3) := ⟨_, rfl⟩
  rw [← hwA] at gA bA
  rw [← hwA]
  clear hwA
  have b02 := below_trans b01 (below_trans b2 bA)
  have hbA := hb0.keep b02
  have HS : ∀ w', Below wA.heap.size wA w' → w'.cell? ⟨w2.heap.size, 0, none⟩ = some (.int .i64 z) := fun w' hb => cell_at (j := 0) (block_keep gA hb) rfl
  go_region_held3 (fun w' => w'.cell? ⟨w2.heap.size, 0, none⟩ = some (.int .i64 z))
    (first | exact HS _ (by with_reducible (repeat (first | assumption | exact Below.refl _ _ | refine below_alloc' ?_ | refine below_drew' ?_ | refine below_step (by assumption) ?_))))
    (first
      | (go_at_call 44; refine pages_ts (IsBytes.keep hbA (by with_reducible (repeat (first | assumption | exact Below.refl _ _ | refine below_alloc' ?_ | refine below_drew' ?_ | refine below_step (by assumption) ?_)))) hl HP ?_))
  all_goals
    obtain ⟨u0, u1, u2, uf0, uf1, uf2⟩ := Box3.of (block_keep g1 (below_trans b1 (below_trans b2 bA)))
    go_wp2
    refine bodyPost_ret (v := .tuple #[zeroV, .int .i64 2]) (by simp [results, Try.results43, go_sem, zeroV, u0, u1, u2]) rfl ?_
    refine ⟨zeroV, by rw [HR.out], by rw [HR.out]; exact IsDisk.zero _, ?_⟩
    first
      | exact ((b02.setCell (p := ⟨w.heap.size + 1, 0, none⟩) (by simp) _).setCell (p := ⟨w.heap.size + 1, 1, none⟩) (by simp) _).setCell (p := ⟨w.heap.size + 1, 2, none⟩) (by simp) _
      | exact (((b02.setCell (p := ⟨w.heap.size + 1, 0, none⟩) (by simp) _).setCell (p := ⟨w.heap.size + 1, 1, none⟩) (by simp) _).setCell (p := ⟨w.heap.size + 1, 2, none⟩) (by simp) _).drew
end Go.Proofs.Ytcembocnkndlhaa
/- The parts of a frame as Append's rounds meet them. -/
namespace Go.Proofs.Ytcembocnkndlhaa
open Go.RowKit Go.Shelf
def slA : Value → Option Addr
  | .slice a _ _ => a
  | _ => none
def slN : Value → Nat
  | .slice _ n _ => n
  | _ => 0
def slC : Value → Nat
  | .slice _ _ c => c
  | _ => 0
theorem row_cells {w W : World} {base g n cap : Nat} {e : TypeId} {xs : List Value} (h : w.ownsRow base e 1 (.slice (some ⟨g, 0, none⟩) n cap) n xs) (hW : W.heap[g]? = w.heap[g]?) {j : Nat} {u : Value} (hu : xs[j]? = some u) : W.cell? ⟨g, 0 + j, none⟩ = some u := by
  have := h.cells (g := g) rfl j u hu
  rw [Addr.add_lit] at this
  unfold World.cell? at this ⊢
  dsimp only at this ⊢
  rw [hW]
  exact this
theorem HoldsB.same {w W : World} {g cap : Nat} {l : List UInt8} (h : HoldsB w g cap l) (hW : W.heap[g]? = w.heap[g]?) : HoldsB W g cap l := by
  obtain ⟨cur, h1, h2⟩ := h
  exact ⟨cur, hW.trans h1, h2⟩
theorem IsBytes.recap {w : World} {a : Option Addr} {n c c' : Nat} {l : List UInt8} (h : IsBytes w (.slice a n c) l) (h1 : l.length ≤ c') (h2 : c' ≤ 9223372036854775807) : IsBytes w (.slice a n c') l := by
  obtain ⟨a', c0, e, hr, hb⟩ := h
  cases e
  exact ⟨_, _, rfl, hr, hb.1, h1, h2⟩
/-- One part: where it lies, and what it holds. -/
theorem part_is {w9 W : World} {w : World} {V : List Value} {r : List UInt8} {P : List (List UInt8)} {g8 cap8 b off m bc : Nat} {ba : Option Addr} (hP : P = partsL r) (hm : m = min r.length 55) (hV : V = .slice (some ⟨g8, 0, none⟩) 64 cap8 :: (List.range (cnt (r.length - m))).map (chV b (off + m) (r.length - m)))
    (hf : HoldsB w9 g8 cap8 (firstPage r)) (hba : 0 < r.length - m → ba = some ⟨b, off, none⟩) (hb : IsBytes w (.slice ba r.length bc) r) (hg : W.heap[g8]? = w9.heap[g8]?) (hw : Below w.heap.size w W) (i : Nat) (hi : i < P.length) :
    V[i]? = some (.slice (slA (V.getD i undef)) (slN (V.getD i undef)) (slC (V.getD i undef))) ∧ IsBytes W (.slice (slA (V.getD i undef)) (slN (V.getD i undef)) (slC (V.getD i undef))) P[i] := by
  cases i with
  | zero =>
    have e : V[0]? = some (.slice (some ⟨g8, 0, none⟩) 64 cap8) := by rw [hV]; rfl
    have e2 : V.getD 0 undef = .slice (some ⟨g8, 0, none⟩) 64 cap8 := by rw [List.getD_eq_getElem?_getD, e]; rfl
    rw [e2]
    refine ⟨e, ?_⟩
    have := (hf.same hg).is
    rw [length_first] at this
    have e3 : P[0] = firstPage r := by subst hP; rfl
    rw [e3]
    exact this
  | succ j =>
    have hl : P.length = cnt (r.length - m) + 1 := by
      subst hP
      unfold partsL
      rw [List.length_cons, List.length_map, List.length_range, show r.length - 55 = r.length - m by omega]
    have hj : j < cnt (r.length - m) := by omega
    have hjm : 64 * j < r.length - m := by unfold cnt at hj; omega
    have hm5 : m = 55 := by omega
    have e : V[j + 1]? = some (chV b (off + m) (r.length - m) j) := by
      rw [hV, List.getElem?_cons_succ, List.getElem?_map, List.getElem?_range hj]; rfl
    have e2 : V.getD (j + 1) undef = chV b (off + m) (r.length - m) j := by rw [List.getD_eq_getElem?_getD, e]; rfl
    rw [e2]
    refine ⟨e, ?_⟩
    have e3 : P[j + 1] = (r.drop (m + 64 * j)).take (min 64 (r.length - m - 64 * j)) := by
      subst hP
      show ((List.range (cnt (r.length - 55))).map fun j => ((r.drop 55).drop (64 * j)).take 64)[j]'_ = _
      rw [List.getElem_map, List.getElem_range, List.drop_drop, hm5]
      rcases Nat.lt_or_ge (r.length - 55 - 64 * j) 64 with h | h
      · rw [show min 64 (r.length - 55 - 64 * j) = r.length - 55 - 64 * j by omega, List.take_of_length_le (by rw [List.length_drop]; omega), List.take_of_length_le (by rw [List.length_drop]; omega)]
      · rw [show min 64 (r.length - 55 - 64 * j) = 64 by omega]
    rw [e3]
    rw [hba (by omega)] at hb
    have := bytes_part (hb.keep hw) (i := m + 64 * j) (m := min 64 (r.length - m - 64 * j)) (by omega)
    have h2 := this.recap (c' := min 64 (r.length - m - 64 * j)) (by rw [List.length_take, List.length_drop]; omega) (by omega)
    show IsBytes W (.slice (some ⟨b, off + m + 64 * j, none⟩) (min 64 (r.length - m - 64 * j)) (min 64 (r.length - m - 64 * j))) _
    rw [Nat.add_assoc off]
    exact h2
theorem KB.cells {b N : Nat} {A B : World} {k : Nat} {o : Obj} (h : KB b N A B) (hk : A.heap[k]? = some o) (h1 : k < N) (h2 : k ≠ b) : B.heap[k]? = some o := (h.block k h1 h2).trans hk
end Go.Proofs.Ytcembocnkndlhaa
/- The walk of Append. -/
namespace Go.Proofs.Ytcembocnkndlhaa
open Go.RowKit Go.Shelf
attribute [local go_sem] Oper.semAt_some
theorem fresh_own (w : World) (l : List UInt8) (hl : l.length ≤ maxLen) : (w.alloc (.cells (bytesV l).toArray 5)).ownsRow w.heap.size 5 1 (.slice (some ⟨w.heap.size, 0, none⟩) l.length l.length) l.length (bytesV l) :=
  ⟨by rw [length_bytesV]; omega, .inr ⟨w.heap.size, l.length, _, rfl, Nat.le_refl _, heap_alloc_new w _, Nat.le_refl _, hl, by simp [length_bytesV], by rw [List.toList_toArray, ← length_bytesV l, Nat.mul_one, List.take_length]⟩⟩
theorem own_pos {W : World} {base : Nat} {e : TypeId} {size n : Nat} {v : Value} {xs : List Value} (h : W.ownsRow base e size v n xs) (hn : 0 < n) : ∃ g cap, v = .slice (some ⟨g, 0, none⟩) n cap ∧ base ≤ g ∧ g < W.heap.size := by
  rcases h.2 with ⟨_, h0⟩ | ⟨g, cap, _, rfl, hg, hh, _⟩
  · omega
  · exact ⟨g, cap, rfl, hg, block_lt hh⟩
theorem bytes_front {w : World} {a : Option Addr} {n c : Nat} {l : List UInt8} (h : IsBytes w (.slice a n c) l) {m : Nat} (hm : m ≤ l.length) : IsBytes w (.slice a m c) (l.take m) := by
  have h' := h
  obtain ⟨a', c', e, hr, hb⟩ := h'
  cases e
  cases a with
  | none =>
    obtain rfl : l = [] := by rcases hr with h | ⟨b, off, ha, _⟩; exact h; cases ha
    obtain rfl : m = 0 := by simpa using hm
    exact h
  | some ad =>
    by_cases h0 : l = []
    · subst h0
      obtain rfl : m = 0 := by simpa using hm
      exact h
    obtain ⟨b, off, ha, _⟩ := hr.resolve_left h0
    obtain rfl : ad = ⟨b, off, none⟩ := by simpa using ha
    have := bytes_part h (i := 0) (m := m) (by omega)
    simpa using this
theorem below_grow {B : Nat} {w0 w w' : World} {row : Option Nat} (hb : Below B w0 w) (hg : w.grownBy w' row) (hB : B ≤ w.heap.size) (hr : ∀ r, row = some r → B ≤ r) : Below B w0 w' :=
  hb.trans ⟨hg.os, hg.tape, hg.output, hg.size, fun k hk => hg.block k (by omega) fun e => by have := hr k e.symm; omega⟩
theorem own_free {w : World} {base n g cap : Nat} {e : TypeId} {xs : List Value} (h : w.ownsRow base e 1 (.slice (some ⟨g, 0, none⟩) n cap) n xs) (j : Nat) : w.frozen? ⟨g, j, none⟩ = false := by
  rcases h.2 with ⟨h1, _⟩ | ⟨g', cap', cur, h1, hg, hh, _⟩
  · cases h1
  · cases h1; exact free_at (j := j) hh
theorem last_zero {w : World} {base g cap q : Nat} {lz a : List UInt8} (h : w.ownsRow base 5 1 (.slice (some ⟨g, 0, none⟩) 64 cap) 64 (bytesV lz)) (e : lz = a ++ zeros q) (hl : a.length + q = 64) (hq : 0 < q) : w.cell? ⟨g, 63, none⟩ = some (.int .u8 0) := by
  have := h.cells (g := g) rfl 63 (.int .u8 0) (by
    rw [e]
    unfold bytesV
    rw [List.getElem?_map, List.getElem?_append_right (by omega)]
    unfold zeros
    rw [List.getElem?_replicate, if_pos (by omega)]
    rfl)
  rwa [Addr.add_lit, Nat.zero_add] at this
theorem first_holds {w : World} {base g cap : Nat} {lz l : List UInt8} (h : w.ownsRow base 5 1 (.slice (some ⟨g, 0, none⟩) 64 cap) 64 (bytesV lz)) (e : lz.set 63 1 = l) : HoldsB (w.setCell ⟨g, 63, none⟩ (.int .u8 1)) g cap l := by
  have hl : lz.length = 64 := by have := h.1; rw [length_bytesV] at this; omega
  have hl2 : l.length = 64 := by rw [← e, List.length_set, hl]
  rcases h.2 with ⟨h1, _⟩ | ⟨g', cap', cur, h1, hg, hh, h3, h4, h5, h6⟩
  · cases h1
  · cases h1
    refine ⟨_, heap_setCell_same w g 63 cur 5 _ hh, by omega, h4, by simpa using h5, ?_⟩
    rw [hl2, Array.toList_setIfInBounds, List.take_set, show List.take 64 cur.toList = bytesV lz by simpa using h6, ← e]
    unfold bytesV
    rw [List.map_set]
    rfl
theorem first_set (r : List UInt8) {m q : Nat} (hm : m = min r.length 55) (hq : 8 + m + q = 64) : (fourN r.length ++ fourN (sumN r) ++ r.take m ++ zeros q).set 63 1 = firstPage r := by
  have e1 : r.take m = r.take 55 := by
    rcases Nat.lt_or_ge r.length 55 with h | h
    · rw [List.take_of_length_le (by omega), List.take_of_length_le (by omega)]
    · rw [show m = 55 by omega]
  have e2 : zeros q = zeros (55 - r.length) ++ [0] := by
    unfold zeros
    rw [show q = (55 - r.length) + 1 by omega, List.replicate_succ']
  unfold firstPage
  rw [e1, e2, ← List.append_assoc, ← List.append_assoc, List.set_append_right _ _ (by simp [fourN, zeros]; omega)]
  rw [show 63 - (fourN r.length ++ fourN (sumN r) ++ r.take 55 ++ zeros (55 - r.length)).length = 0 by simp [fourN, zeros]; omega]
  simp
theorem two_boxes {X w10 : World} {A B : Array Value} {ta tb : TypeId} (h : w10 = (X.alloc (.cells A ta)).alloc (.cells B tb)) : w10.heap[X.heap.size]? = some (.cells A ta (0, 0)) ∧ w10.heap[X.heap.size + 1]? = some (.cells B tb (0, 0)) ∧ Below X.heap.size X w10 := by
  subst h
  refine ⟨block_keep (heap_alloc_new X _) (below_new _ _), ?_, below_trans (below_new X _) (below_new _ _)⟩
  have := heap_alloc_new (X.alloc (.cells A ta)) (.cells B tb)
  simpa using this
theorem flat_one (L : List Value) : L.flatMap (fun v : Value => [v]) = L := by
  induction L with
  | nil => rfl
  | cons x r ih => rw [List.flatMap_cons, ih]; rfl
theorem round_writes {d : Dk} {z : Nat} {r : List UInt8} {P : List (List UInt8)} (hf : formed d = true) (hz : z + pagesN r.length ≤ 400) (hP : P = partsL r) : ∀ (pre : List (Fin P.length)) (i : Fin P.length),
    writeD ⟨d.pages, d.writes ++ endW z r ++ pre.map (wOf z P), false⟩ ((z : Int) + (i.1 : Int)) P[i] = (⟨d.pages, d.writes ++ endW z r ++ (pre ++ [i]).map (wOf z P), false⟩, 0) := by
  subst hP
  exact round_write hf hz
theorem box_set3 {W : World} {b : Nat} {x y z : Value} (h : W.heap[b]? = some (.cells #[x, y, z] 25 (0, 0))) (x' y' z' : Value) : (((W.setCell ⟨b, 0, none⟩ x').setCell ⟨b, 1, none⟩ y').setCell ⟨b, 2, none⟩ z').heap[b]? = some (.cells #[x', y', z'] 25 (0, 0)) := by
  have h1 := heap_setCell_same W b 0 _ 25 x' h
  have h2 := heap_setCell_same _ b 1 _ 25 y' h1
  exact heap_setCell_same _ b 2 _ 25 z' h2
theorem own_cap {W : World} {base g n cap : Nat} {e : TypeId} {xs : List Value} (h : W.ownsRow base e 1 (.slice (some ⟨g, 0, none⟩) n cap) n xs) : n ≤ cap ∧ cap ≤ 9223372036854775807 := by
  rcases h.2 with ⟨h1, _⟩ | ⟨g', cap', cur, h1, hg, hh, h3, h4, _⟩
  · cases h1
  · cases h1
    unfold maxLen at h4
    exact ⟨h3, by omega⟩
theorem endW_len (z : Nat) (r : List UInt8) : (endW z r).length ≤ 1 := by unfold endW; split <;> simp
theorem keeps_set3 {N b : Nat} {W w20 : World} (hb : Below W.heap.size W w20) (hN : b < N) (x y z : Value) : KeepsFrom N W (((w20.setCell ⟨b, 0, none⟩ x).setCell ⟨b, 1, none⟩ y).setCell ⟨b, 2, none⟩ z) :=
  ⟨by simpa [World.setCell] using hb.size, fun k o hk hko _ => by
    rw [heap_setCell_other _ ⟨b, 2, none⟩ k _ (by show k ≠ b; omega), heap_setCell_other _ ⟨b, 1, none⟩ k _ (by show k ≠ b; omega), heap_setCell_other _ ⟨b, 0, none⟩ k _ (by show k ≠ b; omega), hb.block k (Array.getElem?_eq_some_iff.1 hko).1]
    exact hko⟩
theorem bytes_base {w : World} {a : Option Addr} {n c m : Nat} {l : List UInt8} (h : IsBytes w (.slice a n c) l) : ∃ b off, 0 < l.length - m → a = some ⟨b, off, none⟩ := by
  obtain ⟨a', c', e, hr, hb⟩ := h
  cases e
  rcases hr with h | ⟨b, off, ha, _⟩
  · exact ⟨0, 0, fun h0 => by rw [h] at h0; simp at h0⟩
  · exact ⟨b, off, fun _ => ha⟩
theorem one_own (w : World) (v : Value) (e : TypeId) : (w.alloc (.cells #[v] e)).ownsRow w.heap.size e 1 (.slice (some ⟨w.heap.size, 0, none⟩) 1 1) 1 [v] :=
  ⟨rfl, .inr ⟨w.heap.size, 1, _, rfl, Nat.le_refl _, heap_alloc_new w _, Nat.le_refl _, by decide, rfl, rfl⟩⟩
set_option maxHeartbeats 4000000 in
set_option maxRecDepth 100000 in
theorem Append_in (v : Value) (d : Dk) (k : Int) (bv : Value) (r : List UInt8) (w : World) (h : IsDisk w v d) (hb : IsBytes w bv r) (hl : r.length ≤ 1000000) (hf : failure d k = 0) (hz : zOf d k + pagesN r.length ≤ 400) (hwl : d.writes.length ≤ 1000000) : CallsIn Fence.wide 4 Try.prog 43 #[v, .int .i64 k, bv] w (DiskErr (appendD d k r) w) := by
  have h0 := h
  have hb0 := hb
  obtain ⟨pa, pc, wa, wk, rfl, -, -, -⟩ := h.shape
  obtain ⟨ba, bc, rfl, -, mb⟩ := hb
  have b1 := below_new w (.cells #[.slice pa d.pages.length pc, .slice wa d.writes.length wk, .bool d.down] 25)
  have b2 := below_new (w.alloc (.cells #[.slice pa d.pages.length pc, .slice wa d.writes.length wk, .bool d.down] 25)) (.cells #[.slice none 0 0, .slice none 0 0, .bool false] 25)
  have b0 := below_trans b1 b2
  have g0 := block_keep (heap_alloc_new w (.cells #[.slice pa d.pages.length pc, .slice wa d.writes.length wk, .bool d.down] 25)) b2
  have g1 := box_at2 w (.slice pa d.pages.length pc) (.slice wa d.writes.length wk) (.bool d.down)
  obtain ⟨wb, hwb⟩ : ∃ x : World, x = (w.alloc (.cells #[.slice pa d.pages.length pc, .slice wa d.writes.length wk, .bool d.down] 25)).alloc (.cells #[.slice none 0 0, .slice none 0 0, .bool false] 25) := ⟨_, rfl⟩
  rw [← hwb] at b0 g0 g1
  clear b1 b2
  obtain ⟨y0, y1, y2, -, -, -⟩ := Box3.of g0
  have HR := Lib.hid (show appendD d k r = (⟨d.pages, d.writes ++ appendW (zOf d k) r, false⟩, 0) by unfold appendD; rw [if_neg (by simp [hf]), if_neg (by omega)])
  have HE := Lib.hid (endD_ok hf)
  obtain ⟨z, hzz⟩ : ∃ z, zOf d k = z := ⟨_, rfl⟩
  obtain ⟨p, hp⟩ : ∃ p, pagesN r.length = p := ⟨_, rfl⟩
  rw [hzz] at HE HR
  rw [hzz, hp] at hz
  have HP := Lib.hid hp
  have HF := Lib.hid hf
  have hz4 : z ≤ 500 := by
    rw [← hzz]
    obtain ⟨-, -, e1, e2⟩ := failure_zero hf
    have := (walkL_chain (pagesOf d) 400 k.toNat (by omega)).1.top (by omega)
    unfold zOf; omega
  have hp4 : p ≤ 1000000 := by rw [← hp]; unfold pagesN; omega
  have hq : decide ((400 : Int) < (z : Int) + (p : Int)) = false := decide_eq_false (by omega)
  have hw4 : IntKind.i64.wrap ((z : Int) + (p : Int)) = (z : Int) + (p : Int) := by rw [IntKind.wrap_i64]; omega
  obtain ⟨hfm, hdn, -, -⟩ := failure_zero hf
  have HFM := Lib.hid hfm
  have HDN := Lib.hid hdn
  clear hf hzz hp hfm hdn
  refine callsIn_of_wp_marks Try.func43 rfl trivial ?_ rfl
  simp only [Try.ntmps43, List.size_toArray, List.length_cons, List.length_nil, Nat.reduceAdd, Nat.reduceSub, Array.replicate_succ, Array.replicate_zero, List.push_toArray, List.append_toArray, List.nil_append, List.cons_append]
  refine wpIn_wide.2 ?_
  go_wp2_with fail
  rw [← hwb]
  clear hwb
  refine (readable_any _ d k _ (h0.keep b0)).mono ?_
  rintro e w1 ⟨rfl, b1⟩
  rw [HF.out]
  have b01 := below_trans b0 b1
  have g01 := block_keep g0 b1
  clear y0 y1 y2
  obtain ⟨y0, y1, y2, -, -, -⟩ := Box3.of g01
  go_wp2_with fail
  refine (End_any _ d k _ (h0.keep b01)).mono ?_
  rintro e w2 ⟨rfl, b2⟩
  rw [HE.out]
  clear y0 y1 y2
  go_upto_region 5 with fail
  have gA := heap_alloc_new w2 (.cells #[.int .i64 z] 3)
  have bA := below_new w2 (.cells #[.int .i64 z] 3)
  obtain ⟨wA, hwA⟩ : ∃ x : World, x = w2.alloc (.cells #[.int .i64 z] 3) := ⟨_, rfl⟩
  rw [← hwA] at gA bA
  rw [← hwA]
  clear hwA
  have b02 := below_trans b01 (below_trans b2 bA)
  have hbA := hb0.keep b02
  have HS : ∀ w', Below wA.heap.size wA w' → w'.cell? ⟨w2.heap.size, 0, none⟩ = some (.int .i64 z) := fun w' hb => cell_at (j := 0) (block_keep gA hb) rfl
  go_cut [30] from 26 to 29 (fun vt wx => vt = .bool false ∧ Below wA.heap.size wA wx)
  case first =>
    go_region_held3 (fun w' => w'.cell? ⟨w2.heap.size, 0, none⟩ = some (.int .i64 z))
      (first | exact HS _ (by with_reducible (repeat (first | assumption | exact Below.refl _ _ | refine below_alloc' ?_ | refine below_drew' ?_ | refine below_step (by assumption) ?_))))
      (first
        | (go_at_call 44; refine pages_ts (IsBytes.keep hbA (by with_reducible (repeat (first | assumption | exact Below.refl _ _ | refine below_alloc' ?_ | refine below_drew' ?_ | refine below_step (by assumption) ?_)))) hl HP ?_))
    all_goals
      go_wp2
      go_meet
      case rel => exact ⟨rfl, by with_reducible (repeat (first | assumption | exact Below.refl _ _ | refine below_alloc' ?_ | refine below_drew' ?_ | refine below_step (by assumption) ?_))⟩
  case rest =>
    obtain ⟨rfl, b3⟩ := hcut
    obtain ⟨w3, hw3⟩ : ∃ x : World, x = wc := ⟨_, rfl⟩
    subst hw3
    clear hq hw4 HS
    have gA3 := block_keep gA b3
    have b03 := below_trans b02 b3
    have hb3 := hb0.keep b03
    have hlw : IntKind.u32.wrap (r.length : Int) = (r.length : Int) := wrap_u32_id (by omega)
    go_wp2_with fail
    refine (four_any r.length _ (by unfold two32; omega)).mono ?_
    rintro e w4 ⟨rfl, hw4⟩
    have o4 := fresh_own w3 (fourN r.length) (by show 4 ≤ maxLen; decide)
    have b4 := below_new w3 (.cells (bytesV (fourN r.length)).toArray 5)
    have hs4 : w3.heap.size < w4.heap.size := by rw [hw4]; simp
    rw [← hw4] at o4 b4
    clear hw4
    go_wp2_with fail
    refine (Sum_any _ r _ (hb3.keep b4)).mono ?_
    rintro e w5 ⟨rfl, rfl⟩
    obtain ⟨sm, hsm⟩ : ∃ sm, sm = sumN r := ⟨_, rfl⟩
    rw [← hsm]
    have hsl : sm < two32 := by rw [hsm]; exact sumN_lt r
    have HSM := Lib.hid hsm
    clear hsm
    go_wp2_with fail
    refine (four_any sm _ hsl).mono ?_
    rintro e w5 ⟨rfl, hw5⟩
    have o5 := fresh_own w4 (fourN sm) (by show 4 ≤ maxLen; decide)
    have b5 := below_new w4 (.cells (bytesV (fourN sm)).toArray 5)
    have hs5 : w3.heap.size ≤ w5.heap.size := by rw [hw5]; simp; omega
    rw [← hw5] at o5 b5
    clear hw5
    have o45 : w5.ownsRow w3.heap.size 5 1 (.slice (some ⟨w3.heap.size, 0, none⟩) 4 4) 4 (bytesV (fourN r.length)) := own_keep o4 b5
    have hx5 : IsRows 1 encB w5 (.slice (some ⟨w4.heap.size, 0, none⟩) 4 4) (fourN sm) := IsRows.of_owns (base := w4.heap.size) (e := 5) (by rw [flat_bytes]; exact o5) (fun _ _ => rfl) (by show 4 ≤ 9223372036854775807; decide)
    obtain ⟨i0, hi, hz0, hz1, hz2⟩ := info_parts info5
    have hone := bytes_one (fourN sm)
    obtain ⟨l8, hl8⟩ : ∃ l8, l8 = fourN r.length ++ fourN sm := ⟨_, rfl⟩
    have HL8 := Lib.hid hl8
    clear hl8
    go_upto_region 8 with (at_builtin; refine wpList_append_rows rfl encB _ _ 26 rfl w3.heap.size 5 i0 (.int .u8 0) 1 1 Try.underlying26 hi hz0 hz1 hz2 rfl (by decide) _ _ _ rfl o45 _ (fourN sm) rfl hx5 (fun _ _ => rfl) hone (by show 4 + 4 ≤ maxLen; decide) (by show (4 + 4) * 1 ≤ 140737488355328; decide) hs5 ?_; intro v6 w6 own6 grow6 at6; have o6 : w6.ownsRow w3.heap.size 5 1 v6 8 (bytesV l8) := (by rw [HL8.out, bytesV_append, ← flat_bytes (fourN sm)]; exact own6); obtain ⟨g6, cap6, hv6, hg6, hgl6⟩ := own_pos o6 (by decide); subst hv6)
    obtain ⟨m, hm⟩ : ∃ m, m = min r.length 55 := ⟨_, rfl⟩
    have HM := Lib.hid hm
    go_cut [11] from 40 to 42 (fun vt wx => vt = .int .i64 m ∧ wx = w6)
    case first =>
      go_wp2
      all_goals
        go_meet
        case rel => exact ⟨congrArg (Value.int .i64) (by omega), rfl⟩
    case rest =>
      obtain ⟨rfl, hwc⟩ := hcut
      have hwc' := hwc.symm
      subst hwc'
      have hml : m ≤ r.length := by omega
      have hm55 : m ≤ 55 := by omega
      have hmc : m ≤ bc := by omega
      clear hm
      have b36 : Below w3.heap.size w3 w6 := Below.grown (below_trans b4 b5) grow6 hs5 (own_from o45)
      have hs6 := b36.size
      have hx6 := bytes_front (hb3.keep b36) hml
      have hone2 := bytes_one (r.take m)
      have hlt : (r.take m).length = m := by rw [List.length_take]; omega
      obtain ⟨t, ht⟩ : ∃ t, t = r.take m := ⟨_, rfl⟩
      rw [← ht] at hx6 hone2 hlt
      have HT := Lib.hid ht
      clear ht
      have hm1 : 8 + t.length ≤ maxLen := by unfold maxLen; omega
      have hm2 : (8 + t.length) * 1 ≤ 140737488355328 := by omega
      have HLT := Lib.hid hlt
      clear hlt
      obtain ⟨q, hq⟩ : ∃ q : Nat, (55 : Int) - (m : Int) + 1 = (q : Int) := ⟨56 - m, by omega⟩
      have hq0 : 0 < q := by omega
      have hqm : 8 + m + q = 64 := by omega
      have HQM := Lib.hid hqm
      have HQ := Lib.hid hq
      obtain ⟨lz, hlz⟩ : ∃ lz, lz = l8 ++ t ++ zeros q := ⟨_, rfl⟩
      have hzq : bytesV (zeros q) = List.replicate q (Value.int .u8 0) := by unfold zeros bytesV; rw [List.map_replicate]; rfl
      have hlzV : bytesV lz = bytesV (l8 ++ t) ++ List.replicate q (Value.int .u8 0) := by rw [hlz, bytesV_append, hzq]
      have HLZ := Lib.hid hlz
      have HLV := Lib.hid hlzV
      clear hq hqm hlz hzq hlzV
      go_upto_region 10 with (first
        | (at_builtin; refine wpList_append_rows rfl encB (.tmp 43) (.tmp 46) 26 rfl w3.heap.size 5 i0 (.int .u8 0) 1 1 Try.underlying26 hi hz0 hz1 hz2 rfl (by decide) _ _ _ rfl o6 _ t rfl hx6 (fun _ _ => rfl) hone2 hm1 hm2 hs6 ?_; intro v7 w7 own7 grow7 at7; rw [HLT.out] at own7; have o7 : w7.ownsRow w3.heap.size 5 1 v7 (8 + m) (bytesV (l8 ++ t)) := (by rw [bytesV_append, ← flat_bytes t]; exact own7); obtain ⟨g7, cap7, hv7, hg7, hgl7⟩ := own_pos o7 (by omega); subst hv7; have b67 : Below w3.heap.size w3 w7 := below_grow b36 grow7 hs6 (own_from o6); have hs7 := b67.size; obtain ⟨v8, w8, hrun8, own8, grow8⟩ := run_append_own_zeros w7 w3.heap.size 26 3 26 5 i0 .i64 .i64 Try.underlying26 Try.underlying3 hi hz0 hz1 hz2 _ (8 + m) _ o7 q hq0 (by rw [HQM.out]; decide) (by rw [HQM.out]; decide) hs7; rw [HQM.out, ← HLV.out] at own8; obtain ⟨g8, cap8, hv8, hg8, hgl8⟩ := own_pos own8 (by decide); subst hv8; have HRUN := Lib.hid hrun8; clear hrun8)
        | (at_builtin; refine Lib.wpList_append_run _ rfl (.tmp 47) (.tmp 50) 26 3 rfl _ (.int .i64 q) rfl (congrArg (Value.int .i64) HQ.out) _ _ HRUN.out ?_))
      have b68 : Below w3.heap.size w3 w8 := below_grow b67 grow8 hs7 (own_from o7)
      have hs8 := b68.size
      have hc63 : w8.cell? ⟨g8, 63, none⟩ = some (.int .u8 0) := last_zero own8 (by rw [HLZ.out]) (by rw [List.length_append, HLT.out, HL8.out]; exact HQM.out) hq0
      have hf63 := own_free own8 63
      have hold := first_holds own8 (l := firstPage r) (by
        rw [HLZ.out, HL8.out, HT.out, HSM.out]
        exact first_set r HM.out HQM.out)
      clear o6 own7 o7 own8 at6 at7 own6
      obtain ⟨w9, hw9⟩ : ∃ x : World, x = w8.setCell ⟨g8, 63, none⟩ (.int .u8 1) := ⟨_, rfl⟩
      rw [← hw9] at hold
      have b69 : Below w3.heap.size w3 w9 := by rw [hw9]; exact b68.setCell (p := ⟨g8, 63, none⟩) hg8 _
      have hs9 := b69.size
      have hs89 : w3.heap.size ≤ w9.heap.size := hs9
      go_upto_region 11 with fail
      rw [← hw9]
      clear hw9
      obtain ⟨b, off, hba⟩ : ∃ b off, 0 < r.length - m → ba = some ⟨b, off, none⟩ := bytes_base hb0
      have hbm : 0 < r.length - m → Option.map (fun x => Addr.add x m) ba = some ⟨b, off + m, none⟩ := fun h => by rw [hba h]; simp [Addr.add_lit]
      have HBA := Lib.hid hba
      have HBM := Lib.hid hbm
      clear hba hbm
      obtain ⟨F, hF⟩ : ∃ F : Value, F = .slice (some ⟨g8, 0, none⟩) 64 cap8 := ⟨_, rfl⟩
      have HFV := Lib.hid hF
      have o55 : (w9.alloc (.cells #[.slice (some ⟨g8, 0, none⟩) 64 cap8] 26)).ownsRow w9.heap.size 26 1 (.slice (some ⟨w9.heap.size, 0, none⟩) 1 1) 1 [F] := by rw [hF]; exact one_own w9 _ 26
      have b9X := below_new w9 (.cells #[.slice (some ⟨g8, 0, none⟩) 64 cap8] 26)
      clear hF
      have hcmm : cnt (r.length - m) ≤ 100000 := by unfold cnt; omega
      obtain ⟨i1, hj, hy0, hy1, hy2⟩ := info_parts info26
      obtain ⟨L, hL⟩ : ∃ L, L = (List.range (cnt (r.length - m))).map (chV b (off + m) (r.length - m)) := ⟨_, rfl⟩
      have hLl : L.length = cnt (r.length - m) := by rw [hL, List.length_map, List.length_range]
      have honeL : ∀ y ∈ L, ∀ u ∈ (fun v : Value => [v]) y, u.oneCell' = true := by
        intro y hy u hu
        rw [hL] at hy
        obtain ⟨j, -, rfl⟩ := List.mem_map.1 hy
        simp at hu
        subst hu
        rfl
      have HLD := Lib.hid hL
      have HLl := Lib.hid hLl
      clear hL hLl
      have hM1 : 1 + L.length ≤ maxLen := by rw [HLl.out]; unfold maxLen; omega
      have hM2 : (1 + L.length) * 24 ≤ 140737488355328 := by rw [HLl.out]; omega
      go_cut [12] from 54 to 61 (fun vt wx => Below w9.heap.size w9 wx ∧ wx.ownsRow w9.heap.size 26 1 vt (1 + L.length) (F :: L))
      case first =>
        by_cases hbc : bc = m
        · have hP : (bc = m) = True := eq_true hbc
          have HBC := Lib.hid hbc
          clear hbc
          go_wp2_with fail
          refine (Chunk_any _ _ _ _).mono ?_
          rintro e w10 ⟨rfl, hw10⟩
          obtain ⟨gB, gC, bXB⟩ := two_boxes hw10
          rw [show (w9.alloc (.cells #[.slice (some ⟨g8, 0, none⟩) 64 cap8] 26)).heap.size = w9.heap.size + 1 by simp] at gB gC
          clear hw10
          have b9B := below_trans b9X bXB
          go_wp2_with fail
          refine (Collect_any _ _ b (off + m) (r.length - m) _ _ (fun h => by have := HBC.out; omega) (by omega) (by omega) (by omega) _ (cell_at (j := 0) gB rfl) (cell_at (j := 0) gC rfl)).mono ?_
          rintro e w11 ⟨u, rfl, hO, b11⟩
          have b9C := below_trans b9B b11
          have o55' := own_keep o55 (below_trans bXB b11)
          rw [← HLD.out, ← HLl.out] at hO
          have hx60 : IsRows 1 (fun v : Value => [v]) w11 u L := IsRows.of_owns (by rw [flat_one]; exact hO) (fun _ _ => rfl) (by unfold maxLen at hM1; omega)
          have hs11 := b9C.size
          go_wp2_with (at_builtin; refine wpList_append_rows rfl (fun v : Value => [v]) (.tmp 55) (.tmp 60) 22 rfl w9.heap.size 26 i1 (.slice none 0 0) 1 24 Try.underlying22 hj hy0 hy1 hy2 rfl (by decide) _ 1 [F] rfl o55' _ L rfl hx60 (fun _ _ => rfl) honeL hM1 hM2 hs11 ?_; intro v13 w13 own13 grow13 at13)
          go_meet
          case rel =>
            rw [flat_one] at own13
            exact ⟨below_grow b9C grow13 hs11 (own_from o55'), own13⟩
        · have hP : (bc = m) = False := eq_false hbc
          clear hbc
          go_wp2_with fail
          refine (Chunk_any _ _ _ _).mono ?_
          rintro e w10 ⟨rfl, hw10⟩
          obtain ⟨gB, gC, bXB⟩ := two_boxes hw10
          rw [show (w9.alloc (.cells #[.slice (some ⟨g8, 0, none⟩) 64 cap8] 26)).heap.size = w9.heap.size + 1 by simp] at gB gC
          clear hw10
          have b9B := below_trans b9X bXB
          go_wp2_with fail
          refine (Collect_any _ _ b (off + m) (r.length - m) _ _ HBM.out (by omega) (by omega) (by omega) _ (cell_at (j := 0) gB rfl) (cell_at (j := 0) gC rfl)).mono ?_
          rintro e w11 ⟨u, rfl, hO, b11⟩
          have b9C := below_trans b9B b11
          have o55' := own_keep o55 (below_trans bXB b11)
          rw [← HLD.out, ← HLl.out] at hO
          have hx60 : IsRows 1 (fun v : Value => [v]) w11 u L := IsRows.of_owns (by rw [flat_one]; exact hO) (fun _ _ => rfl) (by unfold maxLen at hM1; omega)
          have hs11 := b9C.size
          go_wp2_with (at_builtin; refine wpList_append_rows rfl (fun v : Value => [v]) (.tmp 55) (.tmp 60) 22 rfl w9.heap.size 26 i1 (.slice none 0 0) 1 24 Try.underlying22 hj hy0 hy1 hy2 rfl (by decide) _ 1 [F] rfl o55' _ L rfl hx60 (fun _ _ => rfl) honeL hM1 hM2 hs11 ?_; intro v13 w13 own13 grow13 at13)
          go_meet
          case rel =>
            rw [flat_one] at own13
            exact ⟨below_grow b9C grow13 hs11 (own_from o55'), own13⟩
      case rest =>
        obtain ⟨b9c, orow⟩ := hcut
        obtain ⟨wx, hwx⟩ : ∃ x : World, x = wc := ⟨_, rfl⟩
        subst hwx
        obtain ⟨P, hP⟩ : ∃ P, P = partsL r := ⟨_, rfl⟩
        obtain ⟨V, hV⟩ : ∃ V, V = F :: L := ⟨_, rfl⟩
        have hPp : P.length = p := by rw [hP, length_parts]; exact HP.out
        have hLP : 1 + L.length = P.length := by
          rw [HLl.out, hPp, ← HP.out, show m = min r.length 55 from HM.out]
          have := cnt_pages r
          have := pagesN_pos r.length
          rw [show r.length - min r.length 55 = r.length - 55 by omega]
          omega
        have hVl : V.length = P.length := by rw [hV, List.length_cons]; omega
        have RW := Lib.hid (round_writes HFM.out (show z + pagesN r.length ≤ 400 by rw [HP.out]; exact hz) hP)
        have AW := Lib.hid (show appendW z r = endW z r ++ (down P.length 0).map (wOf z P) by subst hP; exact appendW_down z r)
        rw [hLP, ← hV] at orow
        obtain ⟨gp, capp, hvp, hgp, hglp⟩ := own_pos orow (by rw [hPp]; have := HP.out; have := pagesN_pos r.length; omega)
        subst hvp
        have HPD := Lib.hid hP
        have HVD := Lib.hid hV
        have HPP := Lib.hid hPp
        have HVL := Lib.hid hVl
        have hn4 : P.length ≤ 400 := by omega
        have hzn : z + P.length ≤ 400 := by omega
        clear hP hV hPp hLP hVl hM1 hM2
        have b3x := below_trans b69 b9c
        have bbx := below_trans b1 (below_trans b2 (below_trans bA (below_trans b3 b3x)))
        have b0x := below_trans b0 bbx
        have gx0 := block_keep g0 bbx
        have gx1 := block_keep g1 bbx
        have gxA := block_keep gA3 b3x
        have hcA := cell_at (j := 0) gxA rfl
        obtain ⟨y0, y1, y2, f0, f1, f2⟩ := Box3.of gx0
        have hox : OffDisk (fun i => i = w.heap.size ∨ i = w.heap.size + 1) wx _ d := h0.off b0x (by rintro β (rfl | rfl) <;> omega)
        obtain ⟨d2, hd2⟩ : ∃ d2 : Dk, d2 = ⟨d.pages, d.writes ++ endW z r, false⟩ := ⟨_, rfl⟩
        have H2 := Lib.hid hd2
        clear hd2
        obtain ⟨D, hD⟩ : ∃ D : List (Fin P.length) → Dk, ∀ pre, D pre = ⟨d.pages, d.writes ++ endW z r ++ pre.map (wOf z P), false⟩ := ⟨_, fun _ => rfl⟩
        have HD := Lib.hid hD
        have HD0 := Lib.hid (show D [] = d2 by rw [hD, H2.out]; simp)
        have HRW := Lib.hid (show ∀ pre (i : Fin P.length), writeD (D pre) ((z : Int) + (i.1 : Int)) P[i] = (D (pre ++ [i]), 0) by intro pre i; rw [hD, hD]; exact RW.out pre i)
        have HFin := Lib.hid (show D (down P.length 0) = ⟨d.pages, d.writes ++ appendW z r, false⟩ by rw [hD, AW.out, List.append_assoc])
        clear hD
        have hcapp : P.length ≤ capp ∧ capp ≤ 9223372036854775807 := own_cap orow
        obtain ⟨hcapp, hcapp2⟩ := hcapp
        have hg89 : g8 < w9.heap.size := by obtain ⟨_, hh, _⟩ := hold; exact block_lt hh
        have e1 := block_lt g1
        have e2 := b1.size
        have e3 := b2.size
        have e4 := bA.size
        have e5 := b3.size
        have e6 := b9c.size
        by_cases hlt : z + P.length < 400
        · have hq1 : decide ((z : Int) + (P.length : Int) < 400) = true := decide_eq_true (by omega)
          have HW := Lib.hid (show writeD d ((z : Int) + (P.length : Int)) [] = (d2, 0) by
            have := end_write (d := d) (z := z) (r := r) HFM.out HDN.out (by rw [HP.out, ← HPP.out]; exact hlt)
            rw [HP.out, ← HPP.out, ← H2.out, Int.natCast_add] at this
            exact this)
          go_wp2_with fail
          refine (Write_off _ _ d _ _ [] _ hox (by have := block_lt gx1; rintro β (rfl | rfl) <;> omega) (IsBytes.nil _) (by omega)).mono ?_
          intro e w14 hres
          obtain ⟨pa2, pc2, wa2, wk2, rfl, ho2, b14⟩ := off_to hres HW
          clear hres y0 y1 y2 f0 f1 f2 hq1
          have gz := block_keep gx0 b14
          obtain ⟨y0, y1, y2, f0, f1, f2⟩ := Box3.of gz
          have gy := box_set3 gz (.slice pa2 d2.pages.length pc2) (.slice wa2 d2.writes.length wk2) (.bool d2.down)
          have ho3 := off_set3 ho2 (.inl rfl) (.slice pa2 d2.pages.length pc2) (.slice wa2 d2.writes.length wk2) (.bool d2.down)
          have kb := (KB.of_below (b := w.heap.size) b14 (Nat.le_refl _)).set3 (.slice pa2 d2.pages.length pc2) (.slice wa2 d2.writes.length wk2) (.bool d2.down)
          obtain ⟨wy, hwy⟩ : ∃ wy : World, wy = ((w14.setCell ⟨w.heap.size, 0, none⟩ (.slice pa2 d2.pages.length pc2)).setCell ⟨w.heap.size, 1, none⟩ (.slice wa2 d2.writes.length wk2)).setCell ⟨w.heap.size, 2, none⟩ (.bool d2.down) := ⟨_, rfl⟩
          rw [← hwy] at gy ho3 kb
          go_wp2_with fail
          rw [← hwy]
          clear hwy y0 y1 y2 f0 f1 f2
          refine (back22_any _ _ _ _).mono ?_
          rintro e w15 ⟨rfl, hw15⟩
          have gBk := heap_alloc_new wy (.cells #[.slice (some ⟨gp, 0, none⟩) P.length capp] 22)
          have b15 := below_new wy (.cells #[.slice (some ⟨gp, 0, none⟩) P.length capp] 22)
          rw [← hw15] at gBk b15
          clear hw15
          go_wp2_with fail
          have k15 : KB w.heap.size wx.heap.size wx w15 := kb.trans (KB.of_below b15 kb.size)
          have g15 := block_keep gy b15
          have ho15 := ho3.keep b15
          have hs15 := b15.size
          have hsy := kb.size
          have hlt15 := block_lt gBk
          have hAt : ∀ W, KB w.heap.size w15.heap.size w15 W → W.heap[w2.heap.size]? = some (.cells #[.int .i64 z] 3 (0, 0)) := fun W h => h.cells (k15.cells gxA (by have := block_lt gxA; omega) (by omega)) (by have := block_lt gxA; omega) (by omega)
          have hBk : ∀ W, KB w.heap.size w15.heap.size w15 W → W.cell? ⟨wy.heap.size, 0, none⟩ = some (.slice (some ⟨gp, 0, none⟩) P.length capp) := fun W h => cell_at (j := 0) (h.cells gBk hlt15 (by omega)) rfl
          obtain ⟨fa, fl, fc, hPt⟩ : ∃ (fa : Fin P.length → Option Addr) (fl fc : Fin P.length → Nat), ∀ (i : Fin P.length) W, KB w.heap.size w15.heap.size w15 W → V[i.1]? = some (.slice (fa i) (fl i) (fc i)) ∧ IsBytes W (.slice (fa i) (fl i) (fc i)) P[i] := ⟨fun i => slA (V.getD i.1 undef), fun i => slN (V.getD i.1 undef), fun i => slC (V.getD i.1 undef), fun i W h =>
            part_is HPD.out HM.out (by rw [HVD.out, HFV.out, HLD.out]) hold HBA.out hb0 ((h.block g8 (by omega) (by omega)).trans ((k15.block g8 (by omega) (by omega)).trans (b9c.block g8 hg89))) ((b0x.trans (k15.below (by omega))).trans (h.below (by omega))) i.1 i.2⟩
          have hRow : ∀ (i : Fin P.length) W, KB w.heap.size w15.heap.size w15 W → ∃ b off, some (⟨gp, 0, none⟩ : Addr) = some ⟨b, off, none⟩ ∧ W.cell? ⟨b, off + i.1, none⟩ = some (.slice (fa i) (fl i) (fc i)) := fun i W h =>
            ⟨gp, 0, rfl, row_cells orow ((h.block gp (by omega) (by omega)).trans (k15.block gp hglp (by omega))) (hPt i W h).1⟩
          have hseq := back_told fa fl fc wy.heap.size (some ⟨gp, 0, none⟩) capp hcapp hcapp2 (KB w.heap.size w15.heap.size) (KB.refl _ _) KB.trans w15 (fun W W' h1 h2 => hBk W' ((KB.of_below h1 (Nat.le_refl _)).trans h2)) (fun i W W' h1 h2 => hRow i W' ((KB.of_below h1 (Nat.le_refl _)).trans h2))
          have HAT := Lib.hid hAt
          have HPT := Lib.hid hPt
          clear hAt hPt hRow hBk
          refine (wpIn_wide (n := 4)).1 ?_
          refine range_told (α := Fin P.length) rfl (by decide) (gf := 86) (lb := #[.pointer (some ⟨wy.heap.size, 0, none⟩)]) rfl trivial (enters_of Try.func86 (by kernel_rfl) rfl) hseq KB.trans (KB.put (w := w15)) (Below.refl _ _) (fun _ => rfl) (fun _ _ _ _ hs _ _ => hs)
            (fun pre W => (∃ pq cq wq kq, W.heap[w.heap.size]? = some (.cells #[.slice pq (D pre).pages.length cq, .slice wq (D pre).writes.length kq, .bool (D pre).down] 25 (0, 0)) ∧ OffDisk (fun i => i = w.heap.size ∨ i = w.heap.size + 1) W (.agg #[.slice pq (D pre).pages.length cq, .slice wq (D pre).writes.length kq, .bool (D pre).down]) (D pre)) ∧ KB w.heap.size w15.heap.size w15 W)
            (fun _ _ _ _ hs hg hr => by
              obtain ⟨⟨pq, cq, wq, kq, hq1, hq2⟩, hq3⟩ := hs
              exact ⟨⟨pq, cq, wq, kq, cells_grown hq1 hg fun r e => (hr r e).2, hq2.grown hg fun r e => (hr r e).2⟩, hq3.trans (KB.grown (w := w15) hg (Nat.le_refl _) hq3.size fun r e => (hr r e).1)⟩)
            ⟨⟨_, _, _, _, by rw [HD0.out]; exact g15, by rw [HD0.out]; exact ho15⟩, KB.refl _ _ _⟩
            (fun x a' _ => a' = { tmps := #[Value.agg #[Value.slice pa d.pages.length pc, Value.slice wa d.writes.length wk, Value.bool d.down], Value.int IntKind.i64 k, Value.slice ba r.length bc, Value.pointer (some { block := w.heap.size, off := 0 }), undef, undef, Value.pointer (some { block := w.heap.size + 1, off := 0 }), Value.int IntKind.i64 0, Value.int IntKind.i64 0, Value.pointer (some { block := w2.heap.size, off := 0 }), Value.slice (some { block := g8, off := 0 }) 64 cap8, Value.int IntKind.i64 ↑m, Value.slice (some { block := gp, off := 0 }) P.length capp, Value.int IntKind.i64 (↑z + ↑P.length), Value.int IntKind.i64 (x.1 : Int), Value.slice (fa x) (fl x) (fc x), Value.agg #[Value.slice pa d.pages.length pc, Value.slice wa d.writes.length wk, Value.bool d.down], Value.int IntKind.i64 k, Value.int IntKind.i64 0, Value.int IntKind.i64 0, Value.bool false, undef, undef, Value.agg #[Value.slice pa d.pages.length pc, Value.slice wa d.writes.length wk, Value.bool d.down], Value.int IntKind.i64 k, Value.int IntKind.i64 ↑z, u26, u27, u28, u29, Value.bool false, undef, Value.slice ba r.length bc, Value.int IntKind.i64 ↑r.length, Value.int IntKind.u32 ↑r.length, Value.slice (some { block := w3.heap.size, off := 0 }) 4 4, Value.slice ba r.length bc, Value.int IntKind.u32 ↑sm, Value.slice (some { block := w4.heap.size, off := 0 }) 4 4, Value.slice (some { block := g6, off := 0 }) 8 cap6, u40, u41, u42, Value.slice (some { block := g6, off := 0 }) 8 cap6, Value.slice ba r.length bc, Value.int IntKind.i64 ↑m, Value.slice ba m bc, Value.slice (some { block := g7, off := 0 }) (8 + m) cap7, Value.int IntKind.i64 ↑m, Value.int IntKind.i64 (55 - ↑m), Value.int IntKind.i64 (55 - ↑m + 1), Value.slice (some { block := g8, off := 0 }) 64 cap8, Value.slice (some { block := g8, off := 0 }) 64 cap8, Value.pointer (some { block := g8, off := 63 }), u54, u55, u56, u57, u58, u59, u60, u61, Value.int IntKind.i64 ↑z, Value.slice (some { block := gp, off := 0 }) P.length capp, Value.int IntKind.i64 ↑P.length, Value.int IntKind.i64 (↑z + ↑P.length), Value.int IntKind.i64 (↑z + ↑P.length), Value.bool true, Value.tuple #[Value.agg #[Value.slice pa2 d2.pages.length pc2, Value.slice wa2 d2.writes.length wk2, Value.bool d2.down], Value.int IntKind.i64 0], Value.agg #[Value.slice pa d.pages.length pc, Value.slice wa d.writes.length wk, Value.bool d.down], Value.int IntKind.i64 (↑z + ↑P.length), Value.tuple #[Value.agg #[Value.slice pa2 d2.pages.length pc2, Value.slice wa2 d2.writes.length wk2, Value.bool d2.down], Value.int IntKind.i64 0], Value.agg #[Value.slice pa2 d2.pages.length pc2, Value.slice wa2 d2.writes.length wk2, Value.bool d2.down], Value.int IntKind.i64 0, Value.slice (some { block := gp, off := 0 }) P.length capp, Value.func (Fn.func 86) #[] #[Value.pointer (some { block := wy.heap.size, off := 0 })], Value.int IntKind.i64 (x.1 : Int), Value.slice (fa x) (fl x) (fc x), undef, undef, undef, undef, undef, undef, undef, undef, undef, undef], defers := [] })
            (fun _ _ _ _ _ _ hs _ _ => hs) ?assign ?body ?done
          case assign =>
            rintro l pre x W K hI hK
            unfold encP
            gi_wp2
            exact hK _ _ (KeepsFrom.refl _ _) (KB.refl _ _ _) hI rfl
          case body =>
            rintro l pre x a' W hl ⟨⟨pq, cq, wq, kq, gq, hoq⟩, hKB⟩ rfl hltx
            have hpart := (HPT.out x W hKB).2
            have gAt := HAT.out W hKB
            have hcA2 := cell_at (j := 0) gAt rfl
            have hx2 : x.1 < P.length := x.2
            have hBl : ∀ β, (β = w.heap.size ∨ β = w.heap.size + 1) → β < W.heap.size := by have := hKB.size; rintro β (rfl | rfl) <;> omega
            have hDl : (D pre).writes.length ≤ 100000000 := by
              rw [HD.out]
              have := endW_len z r
              simp only [List.length_append, List.length_map]
              omega
            obtain ⟨y0, y1, y2, f0, f1, f2⟩ := Box3.of gq
            gi_wp2_with fail
            refine ⟨trivial, ?_⟩
            (with_reducible refine (CallsIn.inRound l (callsIn_wide.2 (Write_off (fun i => i = w.heap.size ∨ i = w.heap.size + 1) _ (D pre) ((z : Int) + (x.1 : Int)) _ P[x] W hoq hBl hpart hDl))).mono ?_)
            intro e w20 hres
            obtain ⟨pa3, pc3, wa3, wk3, rfl, hoe, b20⟩ := off_to hres (HRW.out pre x)
            clear hres y0 y1 y2 f0 f1 f2
            have gz := block_keep gq b20
            obtain ⟨y0, y1, y2, f0, f1, f2⟩ := Box3.of gz
            have gy2 := box_set3 gz (.slice pa3 (D (pre ++ [x])).pages.length pc3) (.slice wa3 (D (pre ++ [x])).writes.length wk3) (.bool (D (pre ++ [x])).down)
            have ho4 := off_set3 hoe (.inl rfl) (.slice pa3 (D (pre ++ [x])).pages.length pc3) (.slice wa3 (D (pre ++ [x])).writes.length wk3) (.bool (D (pre ++ [x])).down)
            have kb2 := (KB.of_below (b := w.heap.size) b20 hKB.size).set3 (.slice pa3 (D (pre ++ [x])).pages.length pc3) (.slice wa3 (D (pre ++ [x])).writes.length wk3) (.bool (D (pre ++ [x])).down)
            have kf := keeps_set3 (N := w15.heap.size) (b := w.heap.size) b20 (by omega) (.slice pa3 (D (pre ++ [x])).pages.length pc3) (.slice wa3 (D (pre ++ [x])).writes.length wk3) (.bool (D (pre ++ [x])).down)
            gi_wp2
            first
              | exact ⟨rfl, kf, kb2, ⟨_, _, _, _, gy2, ho4⟩, hKB.trans kb2⟩
              | exact ⟨⟨_, _, _, _, ⟨⟨rfl, rfl⟩, rfl, rfl⟩, ho4⟩, hKB.trans kb2⟩
              | exact ⟨kf, kb2, ⟨_, _, _, _, gy2, ho4⟩, hKB.trans kb2⟩
          case done =>
            rintro D' ys W hD rfl ⟨⟨pq, cq, wq, kq, gq, hoq⟩, hKB⟩ hK
            obtain ⟨y0, y1, y2, -, -, -⟩ := Box3.of gq
            have gq1 : W.heap[w.heap.size + 1]? = _ := hKB.cells (block_keep (k15.cells gx1 (by have := block_lt gx1; omega) (by omega)) (Below.refl _ _)) (by have := block_lt gx1; omega) (by omega)
            obtain ⟨u0, u1, u2, uf0, uf1, uf2⟩ := Box3.of gq1
            have gR := box_set3 gq1 (.slice pq (D (down P.length 0)).pages.length cq) (.slice wq (D (down P.length 0)).writes.length kq) (.bool (D (down P.length 0)).down)
            have hoR := off_set3 hoq (.inr rfl) (.slice pq (D (down P.length 0)).pages.length cq) (.slice wq (D (down P.length 0)).writes.length kq) (.bool (D (down P.length 0)).down)
            have kR := keeps_set3 (N := w15.heap.size) (b := w.heap.size + 1) (Below.refl _ W) (by omega) (.slice pq (D (down P.length 0)).pages.length cq) (.slice wq (D (down P.length 0)).writes.length kq) (.bool (D (down P.length 0)).down)
            have hKR := kR.same D' _ hD hK rfl
            have bR := ((((b0x.trans (k15.below (by omega))).trans (hKB.below (by omega))).setCell (p := ⟨w.heap.size + 1, 0, none⟩) (by simp) (.slice pq (D (down P.length 0)).pages.length cq)).setCell (p := ⟨w.heap.size + 1, 1, none⟩) (by simp) (.slice wq (D (down P.length 0)).writes.length kq)).setCell (p := ⟨w.heap.size + 1, 2, none⟩) (by simp) (.bool (D (down P.length 0)).down)
            have hsW := hKB.size
            go_wp2
            refine ⟨by simp, .inl ⟨_, _, rfl, run_takeDeferred hKR, ?_⟩⟩
            obtain ⟨r0, r1, r2, -, -, -⟩ := Box3.of gR
            have hkX := putObj_keeps (o' := .deferred none) hKR rfl
            replace r0 := hkX _ _ r0
            replace r1 := hkX _ _ r1
            replace r2 := hkX _ _ r2
            have hoX := (hoR.grown (grownBy_putObj' _ D' (.deferred none)) (fun r e => by cases e; exact ⟨_, hKR, rfl⟩)).is
            have bX := bR.trans (belowK_b (w := w15) (n₀ := w.heap.size) (by omega) _ D' _ (.deferred none) hD hKR rfl rfl)
            clear hkX hKR hoR gR kR bR
            refine ⟨Value.tuple #[Value.agg #[Value.slice pq (D (down P.length 0)).pages.length cq, Value.slice wq (D (down P.length 0)).writes.length kq, Value.bool (D (down P.length 0)).down], Value.int .i64 0], ?_, ?_⟩
            · simp [results, Try.results43, go_sem, r0, r1, r2]
            · exact ⟨Value.agg #[Value.slice pq (D (down P.length 0)).pages.length cq, Value.slice wq (D (down P.length 0)).writes.length kq, Value.bool (D (down P.length 0)).down], by rw [HR.out], by rw [HR.out, ← HFin.out]; exact hoX, bX⟩
        · have hq1 : decide ((z : Int) + (P.length : Int) < 400) = false := decide_eq_false (by omega)
          have hd2 : d2 = d := by
            rw [H2.out]; unfold endW
            rw [if_neg (by rw [HP.out, ← HPP.out]; exact hlt), List.append_nil, ← HDN.out]
          have gy : wx.heap[w.heap.size]? = some (.cells #[.slice pa d2.pages.length pc, .slice wa d2.writes.length wk, .bool d2.down] 25 (0, 0)) := by rw [hd2]; exact gx0
          have ho3 : OffDisk (fun i => i = w.heap.size ∨ i = w.heap.size + 1) wx (.agg #[.slice pa d2.pages.length pc, .slice wa d2.writes.length wk, .bool d2.down]) d2 := by rw [hd2]; exact hox
          have kb := KB.refl w.heap.size wx.heap.size wx
          clear hd2
          go_wp2_with fail
          clear y0 y1 y2 f0 f1 f2
          refine (back22_any _ _ _ _).mono ?_
          rintro e w15 ⟨rfl, hw15⟩
          have gBk := heap_alloc_new wx (.cells #[.slice (some ⟨gp, 0, none⟩) P.length capp] 22)
          have b15 := below_new wx (.cells #[.slice (some ⟨gp, 0, none⟩) P.length capp] 22)
          rw [← hw15] at gBk b15
          clear hw15
          go_wp2_with fail
          have k15 : KB w.heap.size wx.heap.size wx w15 := kb.trans (KB.of_below b15 kb.size)
          have g15 := block_keep gy b15
          have ho15 := ho3.keep b15
          have hs15 := b15.size
          have hsy := kb.size
          have hlt15 := block_lt gBk
          have hAt : ∀ W, KB w.heap.size w15.heap.size w15 W → W.heap[w2.heap.size]? = some (.cells #[.int .i64 z] 3 (0, 0)) := fun W h => h.cells (k15.cells gxA (by have := block_lt gxA; omega) (by omega)) (by have := block_lt gxA; omega) (by omega)
          have hBk : ∀ W, KB w.heap.size w15.heap.size w15 W → W.cell? ⟨wx.heap.size, 0, none⟩ = some (.slice (some ⟨gp, 0, none⟩) P.length capp) := fun W h => cell_at (j := 0) (h.cells gBk hlt15 (by omega)) rfl
          obtain ⟨fa, fl, fc, hPt⟩ : ∃ (fa : Fin P.length → Option Addr) (fl fc : Fin P.length → Nat), ∀ (i : Fin P.length) W, KB w.heap.size w15.heap.size w15 W → V[i.1]? = some (.slice (fa i) (fl i) (fc i)) ∧ IsBytes W (.slice (fa i) (fl i) (fc i)) P[i] := ⟨fun i => slA (V.getD i.1 undef), fun i => slN (V.getD i.1 undef), fun i => slC (V.getD i.1 undef), fun i W h =>
            part_is HPD.out HM.out (by rw [HVD.out, HFV.out, HLD.out]) hold HBA.out hb0 ((h.block g8 (by omega) (by omega)).trans ((k15.block g8 (by omega) (by omega)).trans (b9c.block g8 hg89))) ((b0x.trans (k15.below (by omega))).trans (h.below (by omega))) i.1 i.2⟩
          have hRow : ∀ (i : Fin P.length) W, KB w.heap.size w15.heap.size w15 W → ∃ b off, some (⟨gp, 0, none⟩ : Addr) = some ⟨b, off, none⟩ ∧ W.cell? ⟨b, off + i.1, none⟩ = some (.slice (fa i) (fl i) (fc i)) := fun i W h =>
            ⟨gp, 0, rfl, row_cells orow ((h.block gp (by omega) (by omega)).trans (k15.block gp hglp (by omega))) (hPt i W h).1⟩
          have hseq := back_told fa fl fc wx.heap.size (some ⟨gp, 0, none⟩) capp hcapp hcapp2 (KB w.heap.size w15.heap.size) (KB.refl _ _) KB.trans w15 (fun W W' h1 h2 => hBk W' ((KB.of_below h1 (Nat.le_refl _)).trans h2)) (fun i W W' h1 h2 => hRow i W' ((KB.of_below h1 (Nat.le_refl _)).trans h2))
          have HAT := Lib.hid hAt
          have HPT := Lib.hid hPt
          clear hAt hPt hRow hBk
          refine (wpIn_wide (n := 4)).1 ?_
          refine range_told (α := Fin P.length) rfl (by decide) (gf := 86) (lb := #[.pointer (some ⟨wx.heap.size, 0, none⟩)]) rfl trivial (enters_of Try.func86 (by kernel_rfl) rfl) hseq KB.trans (KB.put (w := w15)) (Below.refl _ _) (fun _ => rfl) (fun _ _ _ _ hs _ _ => hs)
            (fun pre W => (∃ pq cq wq kq, W.heap[w.heap.size]? = some (.cells #[.slice pq (D pre).pages.length cq, .slice wq (D pre).writes.length kq, .bool (D pre).down] 25 (0, 0)) ∧ OffDisk (fun i => i = w.heap.size ∨ i = w.heap.size + 1) W (.agg #[.slice pq (D pre).pages.length cq, .slice wq (D pre).writes.length kq, .bool (D pre).down]) (D pre)) ∧ KB w.heap.size w15.heap.size w15 W)
            (fun _ _ _ _ hs hg hr => by
              obtain ⟨⟨pq, cq, wq, kq, hq1, hq2⟩, hq3⟩ := hs
              exact ⟨⟨pq, cq, wq, kq, cells_grown hq1 hg fun r e => (hr r e).2, hq2.grown hg fun r e => (hr r e).2⟩, hq3.trans (KB.grown (w := w15) hg (Nat.le_refl _) hq3.size fun r e => (hr r e).1)⟩)
            ⟨⟨_, _, _, _, by rw [HD0.out]; exact g15, by rw [HD0.out]; exact ho15⟩, KB.refl _ _ _⟩
            (fun x a' _ => a' = { tmps := #[Value.agg #[Value.slice pa d.pages.length pc, Value.slice wa d.writes.length wk, Value.bool d.down], Value.int IntKind.i64 k, Value.slice ba r.length bc, Value.pointer (some { block := w.heap.size, off := 0 }), undef, undef, Value.pointer (some { block := w.heap.size + 1, off := 0 }), Value.int IntKind.i64 0, Value.int IntKind.i64 0, Value.pointer (some { block := w2.heap.size, off := 0 }), Value.slice (some { block := g8, off := 0 }) 64 cap8, Value.int IntKind.i64 ↑m, Value.slice (some { block := gp, off := 0 }) P.length capp, Value.int IntKind.i64 (↑z + ↑P.length), Value.int IntKind.i64 (x.1 : Int), Value.slice (fa x) (fl x) (fc x), Value.agg #[Value.slice pa d.pages.length pc, Value.slice wa d.writes.length wk, Value.bool d.down], Value.int IntKind.i64 k, Value.int IntKind.i64 0, Value.int IntKind.i64 0, Value.bool false, undef, undef, Value.agg #[Value.slice pa d.pages.length pc, Value.slice wa d.writes.length wk, Value.bool d.down], Value.int IntKind.i64 k, Value.int IntKind.i64 ↑z, u26, u27, u28, u29, Value.bool false, undef, Value.slice ba r.length bc, Value.int IntKind.i64 ↑r.length, Value.int IntKind.u32 ↑r.length, Value.slice (some { block := w3.heap.size, off := 0 }) 4 4, Value.slice ba r.length bc, Value.int IntKind.u32 ↑sm, Value.slice (some { block := w4.heap.size, off := 0 }) 4 4, Value.slice (some { block := g6, off := 0 }) 8 cap6, u40, u41, u42, Value.slice (some { block := g6, off := 0 }) 8 cap6, Value.slice ba r.length bc, Value.int IntKind.i64 ↑m, Value.slice ba m bc, Value.slice (some { block := g7, off := 0 }) (8 + m) cap7, Value.int IntKind.i64 ↑m, Value.int IntKind.i64 (55 - ↑m), Value.int IntKind.i64 (55 - ↑m + 1), Value.slice (some { block := g8, off := 0 }) 64 cap8, Value.slice (some { block := g8, off := 0 }) 64 cap8, Value.pointer (some { block := g8, off := 63 }), u54, u55, u56, u57, u58, u59, u60, u61, Value.int IntKind.i64 ↑z, Value.slice (some { block := gp, off := 0 }) P.length capp, Value.int IntKind.i64 ↑P.length, Value.int IntKind.i64 (↑z + ↑P.length), Value.int IntKind.i64 (↑z + ↑P.length), Value.bool false, undef, undef, undef, undef, undef, undef, Value.slice (some { block := gp, off := 0 }) P.length capp, Value.func (Fn.func 86) #[] #[Value.pointer (some { block := wx.heap.size, off := 0 })], Value.int IntKind.i64 (x.1 : Int), Value.slice (fa x) (fl x) (fc x), undef, undef, undef, undef, undef, undef, undef, undef, undef, undef], defers := [] })
            (fun _ _ _ _ _ _ hs _ _ => hs) ?assign ?body ?done
          case assign =>
            rintro l pre x W K hI hK
            unfold encP
            gi_wp2
            exact hK _ _ (KeepsFrom.refl _ _) (KB.refl _ _ _) hI rfl
          case body =>
            rintro l pre x a' W hl ⟨⟨pq, cq, wq, kq, gq, hoq⟩, hKB⟩ rfl hltx
            have hpart := (HPT.out x W hKB).2
            have gAt := HAT.out W hKB
            have hcA2 := cell_at (j := 0) gAt rfl
            have hx2 : x.1 < P.length := x.2
            have hBl : ∀ β, (β = w.heap.size ∨ β = w.heap.size + 1) → β < W.heap.size := by have := hKB.size; rintro β (rfl | rfl) <;> omega
            have hDl : (D pre).writes.length ≤ 100000000 := by
              rw [HD.out]
              have := endW_len z r
              simp only [List.length_append, List.length_map]
              omega
            obtain ⟨y0, y1, y2, f0, f1, f2⟩ := Box3.of gq
            gi_wp2_with fail
            refine ⟨trivial, ?_⟩
            (with_reducible refine (CallsIn.inRound l (callsIn_wide.2 (Write_off (fun i => i = w.heap.size ∨ i = w.heap.size + 1) _ (D pre) ((z : Int) + (x.1 : Int)) _ P[x] W hoq hBl hpart hDl))).mono ?_)
            intro e w20 hres
            obtain ⟨pa3, pc3, wa3, wk3, rfl, hoe, b20⟩ := off_to hres (HRW.out pre x)
            clear hres y0 y1 y2 f0 f1 f2
            have gz := block_keep gq b20
            obtain ⟨y0, y1, y2, f0, f1, f2⟩ := Box3.of gz
            have gy2 := box_set3 gz (.slice pa3 (D (pre ++ [x])).pages.length pc3) (.slice wa3 (D (pre ++ [x])).writes.length wk3) (.bool (D (pre ++ [x])).down)
            have ho4 := off_set3 hoe (.inl rfl) (.slice pa3 (D (pre ++ [x])).pages.length pc3) (.slice wa3 (D (pre ++ [x])).writes.length wk3) (.bool (D (pre ++ [x])).down)
            have kb2 := (KB.of_below (b := w.heap.size) b20 hKB.size).set3 (.slice pa3 (D (pre ++ [x])).pages.length pc3) (.slice wa3 (D (pre ++ [x])).writes.length wk3) (.bool (D (pre ++ [x])).down)
            have kf := keeps_set3 (N := w15.heap.size) (b := w.heap.size) b20 (by omega) (.slice pa3 (D (pre ++ [x])).pages.length pc3) (.slice wa3 (D (pre ++ [x])).writes.length wk3) (.bool (D (pre ++ [x])).down)
            gi_wp2
            first
              | exact ⟨rfl, kf, kb2, ⟨_, _, _, _, gy2, ho4⟩, hKB.trans kb2⟩
              | exact ⟨⟨_, _, _, _, ⟨⟨rfl, rfl⟩, rfl, rfl⟩, ho4⟩, hKB.trans kb2⟩
              | exact ⟨kf, kb2, ⟨_, _, _, _, gy2, ho4⟩, hKB.trans kb2⟩
          case done =>
            rintro D' ys W hD rfl ⟨⟨pq, cq, wq, kq, gq, hoq⟩, hKB⟩ hK
            obtain ⟨y0, y1, y2, -, -, -⟩ := Box3.of gq
            have gq1 : W.heap[w.heap.size + 1]? = _ := hKB.cells (block_keep (k15.cells gx1 (by have := block_lt gx1; omega) (by omega)) (Below.refl _ _)) (by have := block_lt gx1; omega) (by omega)
            obtain ⟨u0, u1, u2, uf0, uf1, uf2⟩ := Box3.of gq1
            have gR := box_set3 gq1 (.slice pq (D (down P.length 0)).pages.length cq) (.slice wq (D (down P.length 0)).writes.length kq) (.bool (D (down P.length 0)).down)
            have hoR := off_set3 hoq (.inr rfl) (.slice pq (D (down P.length 0)).pages.length cq) (.slice wq (D (down P.length 0)).writes.length kq) (.bool (D (down P.length 0)).down)
            have kR := keeps_set3 (N := w15.heap.size) (b := w.heap.size + 1) (Below.refl _ W) (by omega) (.slice pq (D (down P.length 0)).pages.length cq) (.slice wq (D (down P.length 0)).writes.length kq) (.bool (D (down P.length 0)).down)
            have hKR := kR.same D' _ hD hK rfl
            have bR := ((((b0x.trans (k15.below (by omega))).trans (hKB.below (by omega))).setCell (p := ⟨w.heap.size + 1, 0, none⟩) (by simp) (.slice pq (D (down P.length 0)).pages.length cq)).setCell (p := ⟨w.heap.size + 1, 1, none⟩) (by simp) (.slice wq (D (down P.length 0)).writes.length kq)).setCell (p := ⟨w.heap.size + 1, 2, none⟩) (by simp) (.bool (D (down P.length 0)).down)
            have hsW := hKB.size
            go_wp2
            refine ⟨by simp, .inl ⟨_, _, rfl, run_takeDeferred hKR, ?_⟩⟩
            obtain ⟨r0, r1, r2, -, -, -⟩ := Box3.of gR
            have hkX := putObj_keeps (o' := .deferred none) hKR rfl
            replace r0 := hkX _ _ r0
            replace r1 := hkX _ _ r1
            replace r2 := hkX _ _ r2
            have hoX := (hoR.grown (grownBy_putObj' _ D' (.deferred none)) (fun r e => by cases e; exact ⟨_, hKR, rfl⟩)).is
            have bX := bR.trans (belowK_b (w := w15) (n₀ := w.heap.size) (by omega) _ D' _ (.deferred none) hD hKR rfl rfl)
            clear hkX hKR hoR gR kR bR
            refine ⟨Value.tuple #[Value.agg #[Value.slice pq (D (down P.length 0)).pages.length cq, Value.slice wq (D (down P.length 0)).writes.length kq, Value.bool (D (down P.length 0)).down], Value.int .i64 0], ?_, ?_⟩
            · simp [results, Try.results43, go_sem, r0, r1, r2]
            · exact ⟨Value.agg #[Value.slice pq (D (down P.length 0)).pages.length cq, Value.slice wq (D (down P.length 0)).writes.length kq, Value.bool (D (down P.length 0)).down], by rw [HR.out], by rw [HR.out, ← HFin.out]; exact hoX, bX⟩
theorem Append_any (v : Value) (d : Dk) (k : Int) (bv : Value) (r : List UInt8) (w : World) (h : IsDisk w v d) (hb : IsBytes w bv r) (hl : r.length ≤ 1000000) (hwl : d.writes.length ≤ 1000000) : Calls Try.prog 43 #[v, .int .i64 k, bv] w (DiskErr (appendD d k r) w) := by
  by_cases hf : failure d k = 0
  · by_cases hz : zOf d k + pagesN r.length ≤ 400
    · exact callsIn_wide.1 (Append_in v d k bv r w h hb hl hf hz hwl)
    · exact Append_lim v d k bv r w h hb hl hf (by omega)
  · exact Append_err v d k bv r w h hb hf
set_option maxHeartbeats 2000000 in
theorem Clear_any (v : Value) (d : Dk) (k : Int) (w : World) (h : IsDisk w v d) (hwl : d.writes.length ≤ 1000000) : Calls Try.prog 48 #[v, .int .i64 k] w (DiskErr (writeD d k []) w) := by
  have h0 := h
  obtain ⟨pa, pc, wa, wc, rfl, -, -, -⟩ := h.shape
  have b1 := below_new w (.cells #[.slice pa d.pages.length pc, .slice wa d.writes.length wc, .bool d.down] 25)
  have b2 := below_new (w.alloc (.cells #[.slice pa d.pages.length pc, .slice wa d.writes.length wc, .bool d.down] 25)) (.cells #[.slice none 0 0, .slice none 0 0, .bool false] 25)
  have b0 := below_trans b1 b2
  have g0 := block_keep (heap_alloc_new w (.cells #[.slice pa d.pages.length pc, .slice wa d.writes.length wc, .bool d.down] 25)) b2
  have g1 := box_at2 w (.slice pa d.pages.length pc) (.slice wa d.writes.length wc) (.bool d.down)
  obtain ⟨wb, hwb⟩ : ∃ x : World, x = (w.alloc (.cells #[.slice pa d.pages.length pc, .slice wa d.writes.length wc, .bool d.down] 25)).alloc (.cells #[.slice none 0 0, .slice none 0 0, .bool false] 25) := ⟨_, rfl⟩
  rw [← hwb] at b0 g0 g1
  clear b1 b2
  obtain ⟨y0, y1, y2, -, -, -⟩ := Box3.of g0
  have e1 := block_lt g1
  have ho := h0.off (B := fun i => i = w.heap.size + 1) b0 (by rintro β rfl; omega)
  obtain ⟨dd, hdd⟩ : ∃ dd, (writeD d k []).1 = dd := ⟨_, rfl⟩
  obtain ⟨er, her⟩ : ∃ er, (writeD d k []).2 = er := ⟨_, rfl⟩
  have HW := Lib.hid (show writeD d k [] = (dd, er) from Prod.ext hdd her)
  clear hdd her
  go_enter Try.func48, Try.ntmps48
  go_wp2_with fail
  rw [← hwb]
  clear hwb
  refine (Write_off _ _ d k _ [] _ ho (by rintro β rfl; exact e1) (IsBytes.nil _) (by omega)).mono ?_
  intro e w1 hres
  obtain ⟨pa2, pc2, wa2, wk2, rfl, ho2, b1⟩ := off_to hres HW
  clear hres y0 y1 y2
  have gz := block_keep g1 b1
  obtain ⟨u0, u1, u2, uf0, uf1, uf2⟩ := Box3.of gz
  have ho3 := off_set3 ho2 (β := w.heap.size + 1) rfl (.slice pa2 dd.pages.length pc2) (.slice wa2 dd.writes.length wk2) (.bool dd.down)
  have bF := (((below_trans b0 b1).setCell (p := ⟨w.heap.size + 1, 0, none⟩) (by simp) (.slice pa2 dd.pages.length pc2)).setCell (p := ⟨w.heap.size + 1, 1, none⟩) (by simp) (.slice wa2 dd.writes.length wk2)).setCell (p := ⟨w.heap.size + 1, 2, none⟩) (by simp) (.bool dd.down)
  go_wp2
  refine bodyPost_ret (v := .tuple #[.agg #[.slice pa2 dd.pages.length pc2, .slice wa2 dd.writes.length wk2, .bool dd.down], .int .i64 er]) (by simp [results, Try.results48, go_sem, u0, u1, u2]) rfl ?_
  exact ⟨_, by rw [HW.out], by rw [HW.out]; exact ho3.is, bF⟩
end Go.Proofs.Ytcembocnkndlhaa
/- A region that draws its order: two operations that may come up. -/
namespace Go.Proofs.Ytcembocnkndlhaa
open Go.RowKit
theorem any_two {P : Program} {ops : Array Oper} {Q : Exit → Act → World → Prop} {md : Region.Mode} {S : World → Prop} {n : Nat} {i j : Nat} {oi oj : Oper} {f : Nat} {done : Array Bool} {a : Act} {w : World} (hr : Region.ready md ops done = [i, j]) (hi : ops[i]? = some oi) (hj : ops[j]? = some oj) (hin : decide (i < n) = true) (hjn : decide (j < n) = true)
    (h1 : ∀ K : Act → World → Prop, Shut (∀ a w, S w → (S w → AnyT P md ops Q S n f (done.setIfInBounds i true) a w) → K a w) → if Region.wanted oi (yielded ops a.tmps) = true then Oper.wp P oi a w K Q else K (a.put oi.dst undef) w)
    (h2 : ∀ K : Act → World → Prop, Shut (∀ a w, S w → (S w → AnyT P md ops Q S n f (done.setIfInBounds j true) a w) → K a w) → if Region.wanted oj (yielded ops a.tmps) = true then Oper.wp P oj a w K Q else K (a.put oj.dst undef) w) : AnyT P md ops Q S n (f + 1) done a w := by
  refine ⟨fun h0 => (by rw [hr] at h0; cases h0), fun k hk => ?_⟩
  rw [hr] at hk
  rcases List.mem_cons.1 hk with rfl | hk
  · exact wpOp_step hi fun K hK => h1 K fun a' w' hS hx => hK a' w' ⟨fun _ => hS, hx hS⟩
  · obtain rfl := List.mem_singleton.1 hk
    exact wpOp_step hj fun K hK => h2 K fun a' w' hS hx => hK a' w' ⟨fun _ => hS, hx hS⟩
theorem OwnR.kept {w w' : World} {base : Nat} {v : Value} {L : List (List UInt8)} {row : Option Nat} (h : OwnR w base v L) (hg : w.grownBy w' row) (hr : ∀ g, row = some g → g < base) : OwnR w' base v L := by
  obtain ⟨us, h1, h2, h3, h4⟩ := h
  have hne : ∀ x : Value, (∀ k, x.ownBlock = some k → base ≤ k) → x.ownBlock = none ∨ x.ownBlock ≠ row := fun x hx => by
    cases hb : x.ownBlock with
    | none => exact .inl rfl
    | some k => exact .inr fun e => by have := hx k hb; have := hr k e.symm; omega
  exact ⟨us, h1.kept hg (hne v (own_from h1)), h2, fun i u l hu hl => ⟨⟨(h3 i u l hu hl).1.1.kept hg (hne u (own_from (h3 i u l hu hl).1.1)), (h3 i u l hu hl).1.2⟩, (h3 i u l hu hl).2⟩, h4⟩
theorem rpages_ts {v : Value} {L : List (List UInt8)} {w : World} {Q : Ending → World → Prop} (h : IsPages w v L) (hl : L.length ≤ 1000) (hl2 : Hid (∀ p ∈ L, p.length ≤ 1000000)) (k : ∀ u w', OwnR w' w.heap.size u L → Below w.heap.size w w' → Q (.returned u) w') : Calls Try.prog 60 #[v] w Q :=
  (rpages_any v L w h hl hl2).mono fun e w' ⟨u, he, hu, hb⟩ => by subst he; exact k u w' hu hb
/-- Writes that append copies. -/
theorem step_appW {w0 wn : World} {ops : Array Oper} {o : Oper} {a : Act} {K : Act → World → Prop} {Q : Exit → Act → World → Prop} {E : Prop} (hgd : o.guard = none) (s y : Operand) (ho : o.op = .call { callee := .builtin .append, args := #[s, y], argTypes := #[23, 23] })
    {v : Value} (hs : a.eval s = v) {x : Value} {L : List Wt} (hx : a.eval y = x) (hW : IsWrites w0 x L) (hb : Below w0.heap.size w0 wn) {base : Nat} (hown : wn.ownsRow base 49 2 v 0 []) (hbase : base ≤ wn.heap.size) (hl : L.length ≤ 1000000000)
    (h : ∀ g c w' xs, w'.ownsRow base 49 2 (.slice g L.length c) L.length xs → (∀ W, W.ownsRow base 49 2 (.slice g L.length c) L.length xs → Below w0.heap.size w0 W → IsWrites W (.slice g L.length c) L) → Below base wn w' → wn.grownBy w' v.ownBlock → K (a.put o.dst (.slice g L.length c)) w') : if Region.wanted o (yielded ops a.tmps) = true then Oper.wp Try.prog o a wn K Q else E := by
  obtain ⟨i0, hi, hz0, hz1, hz2⟩ := info_parts info49
  have hw : Region.wanted o (yielded ops a.tmps) = true := by simp [Region.wanted, hgd]
  obtain ⟨ps, h1, h2, h3⟩ := hW
  refine step_append_rows hw encW s y 23 ho base 49 i0 (.agg #[.int .i64 0, .slice none 0 0]) 2 32 Try.underlying23 hi hz0 hz1 hz2 rfl (by decide) _ _ _ hs hown x ps hx (h1.keep (keeps_below hb)) (fun _ _ => rfl) (writes_one h2 h3) (by unfold maxLen; omega) (by omega) hbase ?_
  intro v' w1 hown' hgrow _
  have bb : Below base wn w1 := (Below.refl base wn).grown hgrow hbase (own_from hown)
  rw [Nat.zero_add, List.nil_append, h2] at hown'
  have key : ∀ W, W.ownsRow base 49 2 v' L.length (ps.flatMap encW) → Below w0.heap.size w0 W → IsWrites W v' L := fun W hO hB => ⟨ps, IsRows.of_owns (by rw [h2]; exact hO) (fun _ _ => rfl) (by omega), h2, fun i p y hp hy => ⟨(h3 i p y hp hy).1, (h3 i p y hp hy).2.keep hB⟩⟩
  rcases hown'.2 with ⟨e1, e0⟩ | ⟨g, cap, cur, e1, _⟩
  · rw [e1] at key hown' ⊢
    have e2 : (0 : Nat) = L.length := e0.symm
    have e3 : (Value.slice none 0 0) = Value.slice none L.length 0 := by rw [← e2]
    rw [e3] at key hown' ⊢
    exact h _ _ w1 _ hown' key bb hgrow
  · rw [e1] at key hown' ⊢
    exact h _ _ w1 _ hown' key bb hgrow
theorem lit49 (w : World) : (w.alloc (.cells #[] 49)).ownsRow w.heap.size 49 2 (.slice (some ⟨w.heap.size, 0, none⟩) 0 0) 0 [] := World.ownsRow_lit w #[] 0 (Nat.le_refl _) (by decide) rfl
end Go.Proofs.Ytcembocnkndlhaa
/- The law DiskSyncs. -/
namespace Go.Proofs.Ytcembocnkndlhaa
open Go.RowKit
theorem law5_facts {d : Dk} {k : Int} (keep torn : Int) (hf : formed d = true) (hd : d.down = false) (h0 : 0 ≤ k) (h1 : k < 400) : ∃ (s c : Dk) (l : List UInt8), Hid (syncD d = (s, 0)) ∧ Hid (s.writes.length = 0) ∧ Hid (readD s k = (l, 0)) ∧ Hid (readD d k = (l, 0)) ∧ Hid (crashD s keep torn = c) ∧ Hid (c = ⟨s.pages, s.writes, true⟩) ∧ Hid (restartD c = s) := by
  have hfs := formed_sync hf
  refine ⟨⟨replay d.pages d.writes, [], false⟩, _, look d k, Lib.hid (syncD_ok hf hd), Lib.hid rfl, Lib.hid ?_, Lib.hid (readD_ok hf hd h0 h1), Lib.hid rfl, Lib.hid (crashD_dry hfs keep torn), Lib.hid ?_⟩
  · rw [readD_ok hfs rfl h0 h1, look_sync hf h0]
  · rw [crashD_dry hfs keep torn, restartD_ok (d := ⟨replay d.pages d.writes, [], true⟩) (formed_pages ((formed_iff _).1 hfs).2.1 ((formed_iff _).1 hfs).1)]
theorem IsDisk.flip {w : World} {p q : Value} {x : Bool} {d : Dk} (h : IsDisk w (.agg #[p, q, .bool x]) d) (y : Bool) : IsDisk w (.agg #[p, q, .bool y]) ⟨d.pages, d.writes, y⟩ := by
  obtain ⟨pv, wv, e, h1, h2⟩ := h
  have e' : p = pv ∧ q = wv := by simp at e; exact ⟨e.1, e.2.1⟩
  exact ⟨pv, wv, by rw [e'.1, e'.2], h1, h2⟩
set_option maxHeartbeats 16000000 in
set_option maxRecDepth 100000 in
theorem law5_any (v : Value) (d : Dk) (a keep torn : Int) (w : World) (h0 : IsDisk w v d) (ha : 0 ≤ a ∧ a < 65536) : Calls Try.prog 5 #[v, .int .u16 a, .int .i64 keep, .int .i64 torn] w fun e w' => e = .returned (.bool true) ∧ Below w.heap.size w w' := by
  obtain ⟨pa0, pc0, wa0, wc0, rfl, -, -, m1, m2, m3⟩ := h0.shape
  obtain ⟨w1, hB0⟩ : ∃ x : World, x = w.alloc (.cells #[.slice pa0 d.pages.length pc0, .slice wa0 d.writes.length wc0, .bool d.down] 25) := ⟨_, rfl⟩
  have bp : _ ∧ _ := ⟨heap_alloc_new w (.cells #[.slice pa0 d.pages.length pc0, .slice wa0 d.writes.length wc0, .bool d.down] 25), below_new w (.cells #[.slice pa0 d.pages.length pc0, .slice wa0 d.writes.length wc0, .bool d.down] 25)⟩
  rw [← hB0] at bp
  obtain ⟨g0, bN⟩ := bp
  replace h0 := h0.keep bN
  have b0 := bN
  clear bN
  go_enter Try.func5, Try.ntmps5
  go_wp2_with fail
  rw [← hB0]
  clear hB0
  refine (head_any _).mono ?_
  intro e w2 hres
  obtain ⟨rfl, bN⟩ := hres
  replace g0 := block_keep g0 bN
  replace h0 := h0.keep bN
  replace b0 := below_trans b0 bN
  clear bN
  obtain ⟨y00, y01, y02, f00, f01, f02⟩ := Box3.of g0
  go_wp2_with fail
  refine (fine_any _ d _ h0).mono ?_
  rintro e w9 ⟨rfl, bN⟩
  clear y00 y01 y02 f00 f01 f02
  replace g0 := block_keep g0 bN
  replace h0 := h0.keep bN
  replace b0 := below_trans b0 bN
  clear bN
  cases hfi : fineD d
  · go_wp2
    go_ret
    exact ⟨rfl, b0⟩
  obtain ⟨hfm, hdn, -, -⟩ := fine_parts hfi
  obtain ⟨kk, hkk⟩ : ∃ kk : Int, kk = a % 400 := ⟨_, rfl⟩
  have hk0 : 0 ≤ kk := by omega
  have hk1 : kk < 400 := by omega
  obtain ⟨s, c, l, HS5, HN5, HR5, HR0, HC5, HE5, HT5⟩ := law5_facts keep torn hfm hdn hk0 hk1
  have HKK := Lib.hid hkk
  clear hfm hdn hkk hfi
  obtain ⟨y00, y01, y02, f00, f01, f02⟩ := Box3.of g0
  go_wp2_with fail
  refine (Sync_any _ d _ h0).mono ?_
  intro e w10 hres
  obtain ⟨pa1, pc1, wa1, wc1, rfl, h1, bN⟩ := hres.to HS5
  clear y00 y01 y02 f00 f01 f02
  replace g0 := block_keep g0 bN
  replace h0 := h0.keep bN
  replace b0 := below_trans b0 bN
  clear bN
  obtain ⟨w11, hB1⟩ : ∃ x : World, x = w10.alloc (.cells #[(.slice pa1 s.pages.length pc1), (.slice wa1 s.writes.length wc1), (.bool s.down)] 25) := ⟨_, rfl⟩
  have bp : _ ∧ _ := ⟨heap_alloc_new w10 (.cells #[(.slice pa1 s.pages.length pc1), (.slice wa1 s.writes.length wc1), (.bool s.down)] 25), below_new w10 (.cells #[(.slice pa1 s.pages.length pc1), (.slice wa1 s.writes.length wc1), (.bool s.down)] 25)⟩
  rw [← hB1] at bp
  obtain ⟨g1, bN⟩ := bp
  replace g0 := block_keep g0 bN
  replace h0 := h0.keep bN
  replace h1 := h1.keep bN
  replace b0 := below_trans b0 bN
  clear bN
  go_upto_region 5 with fail
  rw [← hB1]
  clear hB1
  go_upto_region 6 with fail
  rw [← HKK.out]
  have hq : decide (0 < (s.writes.length : Int)) = false := decide_eq_false (by rw [HN5.out]; decide)
  have hq2 : decide (0 < s.writes.length) = false := decide_eq_false (by rw [HN5.out]; decide)
  go_cut [45] from 28 to 44 (fun vt wx => vt = .bool false ∧ Below w11.heap.size w11 wx)
  case first =>
    have HS : ∀ w', Below w11.heap.size w11 w' → w'.cell? ⟨w10.heap.size, 0, none⟩ = some (.slice pa1 s.pages.length pc1) ∧ w'.cell? ⟨w10.heap.size, 1, none⟩ = some (.slice wa1 s.writes.length wc1) ∧ w'.cell? ⟨w10.heap.size, 2, none⟩ = some (.bool s.down) ∧ w'.cell? ⟨w.heap.size, 0, none⟩ = some (.slice pa0 d.pages.length pc0) ∧ w'.cell? ⟨w.heap.size, 1, none⟩ = some (.slice wa0 d.writes.length wc0) ∧ w'.cell? ⟨w.heap.size, 2, none⟩ = some (.bool d.down) := fun w' hb => ⟨(Box3.of (block_keep g1 hb)).c0, (Box3.of (block_keep g1 hb)).c1, (Box3.of (block_keep g1 hb)).c2, (Box3.of (block_keep g0 hb)).c0, (Box3.of (block_keep g0 hb)).c1, (Box3.of (block_keep g0 hb)).c2⟩
    go_region_held3 (fun w' => w'.cell? ⟨w10.heap.size, 0, none⟩ = some (.slice pa1 s.pages.length pc1) ∧ w'.cell? ⟨w10.heap.size, 1, none⟩ = some (.slice wa1 s.writes.length wc1) ∧ w'.cell? ⟨w10.heap.size, 2, none⟩ = some (.bool s.down) ∧ w'.cell? ⟨w.heap.size, 0, none⟩ = some (.slice pa0 d.pages.length pc0) ∧ w'.cell? ⟨w.heap.size, 1, none⟩ = some (.slice wa0 d.writes.length wc0) ∧ w'.cell? ⟨w.heap.size, 2, none⟩ = some (.bool d.down))
      (first | exact HS _ (by with_reducible (repeat (first | assumption | exact Below.refl _ _ | refine below_alloc' ?_ | refine below_drew' ?_ | refine below_step (by assumption) ?_))))
      (first
        | (go_at_call 34; refine page_ts (d := s) (IsDisk.keep h1 (by with_reducible (repeat (first | assumption | exact Below.refl _ _ | refine below_alloc' ?_ | refine below_drew' ?_ | refine below_step (by assumption) ?_)))) HR5 ?_; intro pa5 pc5 w5 t5 b5)
        | (go_at_call 34; refine page_ts (d := d) (IsDisk.keep h0 (by with_reducible (repeat (first | assumption | exact Below.refl _ _ | refine below_alloc' ?_ | refine below_drew' ?_ | refine below_step (by assumption) ?_)))) HR0 ?_; intro pa6 pc6 w6 t6 b6)
        | (go_at_call 26; refine sameb_ts (IsBytes.keep t5 (by with_reducible (repeat (first | assumption | exact Below.refl _ _ | refine below_alloc' ?_ | refine below_drew' ?_ | refine below_step (by assumption) ?_)))) (IsBytes.keep t6 (by with_reducible (repeat (first | assumption | exact Below.refl _ _ | refine below_alloc' ?_ | refine below_drew' ?_ | refine below_step (by assumption) ?_)))) (Lib.hid rfl) ?_; intro w7 b7))
    all_goals
      go_wp2
      go_meet
      case rel => exact ⟨rfl, by with_reducible (repeat (first | assumption | exact Below.refl _ _ | refine below_alloc' ?_ | refine below_drew' ?_ | refine below_step (by assumption) ?_))⟩
  case rest =>
    obtain ⟨rfl, bN⟩ := hcut
    clear hq hq2
    replace g0 := block_keep g0 bN
    replace g1 := block_keep g1 bN
    replace h0 := h0.keep bN
    replace h1 := h1.keep bN
    replace b0 := below_trans b0 bN
    clear bN
    obtain ⟨y00, y01, y02, f00, f01, f02⟩ := Box3.of g1
    go_wp2_with fail
    refine (Crash_any _ s keep torn _ h1).mono ?_
    intro e w12 hres
    obtain ⟨pa2, pc2, wa2, wc2, rfl, h2, bN⟩ := hres.to HC5
    clear y00 y01 y02 f00 f01 f02
    replace g0 := block_keep g0 bN
    replace g1 := block_keep g1 bN
    replace h0 := h0.keep bN
    replace h1 := h1.keep bN
    replace b0 := below_trans b0 bN
    clear bN
    obtain ⟨w13, hB2⟩ : ∃ x : World, x = w12.alloc (.cells #[(.slice pa2 c.pages.length pc2), (.slice wa2 c.writes.length wc2), (.bool c.down)] 25) := ⟨_, rfl⟩
    have bp : _ ∧ _ := ⟨heap_alloc_new w12 (.cells #[(.slice pa2 c.pages.length pc2), (.slice wa2 c.writes.length wc2), (.bool c.down)] 25), below_new w12 (.cells #[(.slice pa2 c.pages.length pc2), (.slice wa2 c.writes.length wc2), (.bool c.down)] 25)⟩
    rw [← hB2] at bp
    obtain ⟨g2, bN⟩ := bp
    replace g0 := block_keep g0 bN
    replace g1 := block_keep g1 bN
    replace h0 := h0.keep bN
    replace h1 := h1.keep bN
    replace h2 := h2.keep bN
    replace b0 := below_trans b0 bN
    clear bN
    go_upto_region 9 with fail
    rw [← hB2]
    clear hB2
    obtain ⟨y00, y01, y02, f00, f01, f02⟩ := Box3.of g1
    obtain ⟨w14, hB3⟩ : ∃ x : World, x = w13.alloc (.cells #[(.slice pa1 s.pages.length pc1), (.slice wa1 s.writes.length wc1), (.bool true)] 25) := ⟨_, rfl⟩
    have bp : _ ∧ _ := ⟨heap_alloc_new w13 (.cells #[(.slice pa1 s.pages.length pc1), (.slice wa1 s.writes.length wc1), (.bool true)] 25), below_new w13 (.cells #[(.slice pa1 s.pages.length pc1), (.slice wa1 s.writes.length wc1), (.bool true)] 25)⟩
    rw [← hB3] at bp
    obtain ⟨g3, bN⟩ := bp
    replace g0 := block_keep g0 bN
    replace g1 := block_keep g1 bN
    replace g2 := block_keep g2 bN
    replace h0 := h0.keep bN
    replace h1 := h1.keep bN
    replace h2 := h2.keep bN
    replace b0 := below_trans b0 bN
    clear bN
    go_upto_region 11 with fail
    rw [← hB3]
    clear hB3
    clear y00 y01 y02 f00 f01 f02
    have h3 := h1.flip true
    have HS : ∀ w', Below w14.heap.size w14 w' → w'.cell? ⟨w12.heap.size, 0, none⟩ = some (.slice pa2 c.pages.length pc2) ∧ w'.cell? ⟨w12.heap.size, 1, none⟩ = some (.slice wa2 c.writes.length wc2) ∧ w'.cell? ⟨w12.heap.size, 2, none⟩ = some (.bool c.down) ∧ w'.cell? ⟨w13.heap.size, 0, none⟩ = some (.slice pa1 s.pages.length pc1) ∧ w'.cell? ⟨w13.heap.size, 1, none⟩ = some (.slice wa1 s.writes.length wc1) ∧ w'.cell? ⟨w13.heap.size, 2, none⟩ = some (.bool true) ∧ w'.cell? ⟨w10.heap.size, 0, none⟩ = some (.slice pa1 s.pages.length pc1) ∧ w'.cell? ⟨w10.heap.size, 1, none⟩ = some (.slice wa1 s.writes.length wc1) ∧ w'.cell? ⟨w10.heap.size, 2, none⟩ = some (.bool s.down) := fun w' hb => ⟨(Box3.of (block_keep g2 hb)).c0, (Box3.of (block_keep g2 hb)).c1, (Box3.of (block_keep g2 hb)).c2, (Box3.of (block_keep g3 hb)).c0, (Box3.of (block_keep g3 hb)).c1, (Box3.of (block_keep g3 hb)).c2, (Box3.of (block_keep g1 hb)).c0, (Box3.of (block_keep g1 hb)).c1, (Box3.of (block_keep g1 hb)).c2⟩
    go_region_held3 (fun w' => w'.cell? ⟨w12.heap.size, 0, none⟩ = some (.slice pa2 c.pages.length pc2) ∧ w'.cell? ⟨w12.heap.size, 1, none⟩ = some (.slice wa2 c.writes.length wc2) ∧ w'.cell? ⟨w12.heap.size, 2, none⟩ = some (.bool c.down) ∧ w'.cell? ⟨w13.heap.size, 0, none⟩ = some (.slice pa1 s.pages.length pc1) ∧ w'.cell? ⟨w13.heap.size, 1, none⟩ = some (.slice wa1 s.writes.length wc1) ∧ w'.cell? ⟨w13.heap.size, 2, none⟩ = some (.bool true) ∧ w'.cell? ⟨w10.heap.size, 0, none⟩ = some (.slice pa1 s.pages.length pc1) ∧ w'.cell? ⟨w10.heap.size, 1, none⟩ = some (.slice wa1 s.writes.length wc1) ∧ w'.cell? ⟨w10.heap.size, 2, none⟩ = some (.bool s.down))
      (first | exact HS _ (by with_reducible (repeat (first | assumption | exact Below.refl _ _ | refine below_alloc' ?_ | refine below_drew' ?_ | refine below_step (by assumption) ?_))))
      (first
        | (go_at_call 29; refine restart_ts (IsDisk.keep h2 (by with_reducible (repeat (first | assumption | exact Below.refl _ _ | refine below_alloc' ?_ | refine below_drew' ?_ | refine below_step (by assumption) ?_)))) HT5 ?_; intro pa5 pc5 wa5 wc5 w5 h5 b5)
        | (go_at_call 21; refine same_ts (a := c) (b := ⟨s.pages, s.writes, true⟩) (IsDisk.keep h2 (by with_reducible (repeat (first | assumption | exact Below.refl _ _ | refine below_alloc' ?_ | refine below_drew' ?_ | refine below_step (by assumption) ?_)))) (IsDisk.keep h3 (by with_reducible (repeat (first | assumption | exact Below.refl _ _ | refine below_alloc' ?_ | refine below_drew' ?_ | refine below_step (by assumption) ?_)))) HE5 ?_; intro w6 b6)
        | (go_at_call 21; refine same_ts (a := s) (b := s) (IsDisk.keep h5 (by with_reducible (repeat (first | assumption | exact Below.refl _ _ | refine below_alloc' ?_ | refine below_drew' ?_ | refine below_step (by assumption) ?_)))) (IsDisk.keep h1 (by with_reducible (repeat (first | assumption | exact Below.refl _ _ | refine below_alloc' ?_ | refine below_drew' ?_ | refine below_step (by assumption) ?_)))) (Lib.hid rfl) ?_; intro w7 b7))
    all_goals
      go_wp2
      go_ret
      exact ⟨rfl, below_trans b0 (by with_reducible (repeat (first | assumption | exact Below.refl _ _ | refine below_alloc' ?_ | refine below_drew' ?_ | refine below_step (by assumption) ?_)))⟩
end Go.Proofs.Ytcembocnkndlhaa
