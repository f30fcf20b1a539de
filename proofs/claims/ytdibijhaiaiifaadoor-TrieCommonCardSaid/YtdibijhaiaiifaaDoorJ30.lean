/- Parts Zo: words, walks and laws that the claims of this seat share. -/
import Derived.Test.YtdibijhaiaiifaaDoorJ29
import Derived.Great.BuildSlice
/- The walk of the head of the laws of tries. -/
namespace Go.Proofs.YtdibijhaiaiifaaDoor
open Go.RowKit
/-- A slice literal as a step: the kernel reckons its cells, the zero cells first. -/
theorem step_lit {t e k bytes n : Nat} {z : Value} (hF : Fits t e k bytes z) {ops : Array Oper} {o : Oper} {a : Act} {w : World} {K : Act → World → Prop} {Q : Exit → Act → World → Prop} {E : Prop} (hw : Region.wanted o (yielded ops a.tmps) = true) (parts : Array (Nat × Operand)) (ho : o.op = .buildSlice t n parts) (d : Option Tmp) (hd : o.dst = d) (base cells : Array Value)
    (hbase : (Array.range (n * k)).map (z.cells[· % z.cells.size]!) = base) (hn : 0 < n) (hn2 : n * k ≤ 1000) (xs : List (Nat × Value)) (hx : (parts.map fun (i, x) => (i, a.eval x)).toList = xs) (hf : Instr.fill (fun i => some (i * k, k)) base xs = some cells)
    (h : K (a.put d (.slice (some ⟨w.heap.size, 0, none⟩) n n)) (w.alloc (.cells cells e))) : if Region.wanted o (yielded ops a.tmps) = true then Oper.wp Tryd.prog o a w K Q else E := by
  obtain ⟨i0, hi, hz0, hz1, hz2⟩ := info_parts' hF.info
  rw [if_pos hw]
  subst hd
  have hk := hF.pos
  refine Go.wp_buildSlice t e n parts ho cells i0 z hF.und hi hz0 (by rw [hz1]; omega) (by rw [hz1]; exact Nat.mul_ne_zero (by omega) (by omega)) (by rw [hz1, hbase, hx]; exact hf) h
theorem wpList_lit {t e k bytes n : Nat} {z : Value} (hF : Fits t e k bytes z) {ops : Array Oper} {rest : List Oper} {o : Oper} {a : Act} {w : World} {Q : Exit → Act → World → Prop} (hgd : o.guard = none) (parts : Array (Nat × Operand)) (ho : o.op = .buildSlice t n parts) (d : Option Tmp) (hd : o.dst = d) (base cells : Array Value)
    (hbase : (Array.range (n * k)).map (z.cells[· % z.cells.size]!) = base) (hn : 0 < n) (hn2 : n * k ≤ 1000) (xs : List (Nat × Value)) (hx : (parts.map fun (i, x) => (i, a.eval x)).toList = xs) (hf : Instr.fill (fun i => some (i * k, k)) base xs = some cells)
    (h : wpList Tryd.prog ops Q rest (a.put d (.slice (some ⟨w.heap.size, 0, none⟩) n n)) (w.alloc (.cells cells e))) : wpList Tryd.prog ops Q (o :: rest) a w := by
  obtain ⟨i0, hi, hz0, hz1, hz2⟩ := info_parts' hF.info
  subst hd
  have hk := hF.pos
  exact Go.wpList_buildSlice hgd t e n parts ho cells i0 z hF.und hi hz0 (by rw [hz1]; omega) (by rw [hz1]; exact Nat.mul_ne_zero (by omega) (by omega)) (by rw [hz1, hbase, hx]; exact hf) h
abbrev zV58 : Value := .agg #[.int .i64 0, .int .i64 0, .string ⟨#[]⟩]
abbrev zV44 : Value := .agg #[.slice none 0 0, .slice none 0 0]
theorem base58_1 : (Array.range (1 * 3)).map (zV58.cells[· % zV58.cells.size]!) = #[.int .i64 0, .int .i64 0, .string ⟨#[]⟩] := by kernel_rfl
theorem base58_2 : (Array.range (2 * 3)).map (zV58.cells[· % zV58.cells.size]!) = #[.int .i64 0, .int .i64 0, .string ⟨#[]⟩, .int .i64 0, .int .i64 0, .string ⟨#[]⟩] := by kernel_rfl
theorem base44_3 : (Array.range (3 * 2)).map (zV44.cells[· % zV44.cells.size]!) = #[.slice none 0 0, .slice none 0 0, .slice none 0 0, .slice none 0 0, .slice none 0 0, .slice none 0 0] := by kernel_rfl
theorem five_any (w : World) : Calls Tryd.prog 100 #[] w fun e w' => e = .returned (.slice (some ⟨w.heap.size, 0, none⟩) 1 1) ∧ w' = w.alloc (.cells #[.int .i64 0, .int .i64 5] 86) := by
  go_enter Tryd.func100, Tryd.ntmps100
  go_wp2
  go_ret
  exact ⟨rfl, rfl⟩
theorem tr_parts {t : TR} {vs : List Vl} {ks : List Tr} {s : List Sp} (h : t.tr = .mk vs ks s) : t.vs = vs ∧ t.ks.map TR.tr = ks ∧ t.s = s := by
  refine ⟨?_, ?_, ?_⟩
  · rw [← TR.tr_vs, h]; rfl
  · rw [← TR.tr_ks, h]; rfl
  · rw [← TR.tr_s, h]; rfl
theorem map_two {l : List TR} {a b : Tr} (h : l.map TR.tr = [a, b]) : ∃ x y, l = [x, y] ∧ x.tr = a ∧ y.tr = b := by
  cases l with
  | nil => cases h
  | cons x l =>
    cases l with
    | nil => simp at h
    | cons y l =>
      cases l with
      | nil =>
        simp at h
        exact ⟨x, y, rfl, h.1, h.2⟩
      | cons z l => simp at h
theorem any_four {P : Program} {ops : Array Oper} {Q : Exit → Act → World → Prop} {md : Region.Mode} {S : World → Prop} {n : Nat} {i j k l : Nat} {oi oj ok ol : Oper} {f : Nat} {done : Array Bool} {a : Act} {w : World} (hr : Region.ready md ops done = [i, j, k, l]) (hi : ops[i]? = some oi) (hj : ops[j]? = some oj) (hk : ops[k]? = some ok) (hl : ops[l]? = some ol) (hin : decide (i < n) = true) (hjn : decide (j < n) = true) (hkn : decide (k < n) = true) (hln : decide (l < n) = true)
    (h1 : ∀ K : Act → World → Prop, Shut (∀ a w, S w → (S w → AnyT P md ops Q S n f (done.setIfInBounds i true) a w) → K a w) → if Region.wanted oi (yielded ops a.tmps) = true then Oper.wp P oi a w K Q else K (a.put oi.dst undef) w)
    (h2 : ∀ K : Act → World → Prop, Shut (∀ a w, S w → (S w → AnyT P md ops Q S n f (done.setIfInBounds j true) a w) → K a w) → if Region.wanted oj (yielded ops a.tmps) = true then Oper.wp P oj a w K Q else K (a.put oj.dst undef) w)
    (h3 : ∀ K : Act → World → Prop, Shut (∀ a w, S w → (S w → AnyT P md ops Q S n f (done.setIfInBounds k true) a w) → K a w) → if Region.wanted ok (yielded ops a.tmps) = true then Oper.wp P ok a w K Q else K (a.put ok.dst undef) w)
    (h4 : ∀ K : Act → World → Prop, Shut (∀ a w, S w → (S w → AnyT P md ops Q S n f (done.setIfInBounds l true) a w) → K a w) → if Region.wanted ol (yielded ops a.tmps) = true then Oper.wp P ol a w K Q else K (a.put ol.dst undef) w) : AnyT P md ops Q S n (f + 1) done a w := by
  refine ⟨fun h0 => (by rw [hr] at h0; cases h0), fun t ht => ?_⟩
  rw [hr] at ht
  rcases List.mem_cons.1 ht with rfl | ht
  · exact wpOp_step hi fun K hK => h1 K fun a' w' hS hx => hK a' w' ⟨fun _ => hS, hx hS⟩
  · rcases List.mem_cons.1 ht with rfl | ht
    · exact wpOp_step hj fun K hK => h2 K fun a' w' hS hx => hK a' w' ⟨fun _ => hS, hx hS⟩
    · rcases List.mem_cons.1 ht with rfl | ht
      · exact wpOp_step hk fun K hK => h3 K fun a' w' hS hx => hK a' w' ⟨fun _ => hS, hx hS⟩
      · obtain rfl := List.mem_singleton.1 ht
        exact wpOp_step hl fun K hK => h4 K fun a' w' hS hx => hK a' w' ⟨fun _ => hS, hx hS⟩
set_option maxHeartbeats 100000000 in
set_option maxRecDepth 1000000 in
theorem thead_any (w0 : World) (hT : Tab w0) : Calls Tryd.prog 51 #[] w0 fun e w' => e = .returned (.bool true) ∧ Below w0.heap.size w0 w' := by
  go_enter Tryd.func51, Tryd.ntmps51
  go_wp2_with fail
  refine (Sym_any [97] _).mono ?_
  rintro e u1 ⟨rfl, B1⟩
  unfold strV
  go_upto_region 2 with fail
  have C1 := Cel.new u1 58 [.int .i64 2, .int .i64 0, .string ⟨#[97]⟩]
  have D1 := below_trans B1 (below_new u1 (.cells #[.int .i64 2, .int .i64 0, .string ⟨#[97]⟩] 58))
  obtain ⟨w1, hw⟩ : ∃ z, u1.alloc (.cells #[.int .i64 2, .int .i64 0, .string ⟨#[97]⟩] 58) = z := ⟨_, rfl⟩
  replace C1 : Cel w1 u1.heap.size 58 [.int .i64 2, .int .i64 0, .string ⟨#[97]⟩] := by rw [← hw]; exact C1
  have hs1 : u1.heap.size < w1.heap.size := C1.lt
  rw [hw] at D1
  rw [hw]
  clear hw
  obtain ⟨g1, hg⟩ : ∃ g, u1.heap.size = g := ⟨_, rfl⟩
  rw [hg] at C1
  rw [hg]
  clear hg B1
  go_wp2_with fail
  refine (Sym_any [98] _).mono ?_
  rintro e u2 ⟨rfl, B2⟩
  unfold strV
  go_upto_region 3 with fail
  have C2 := Cel.new u2 58 [.int .i64 2, .int .i64 0, .string ⟨#[98]⟩]
  have D2 := below_trans B2 (below_new u2 (.cells #[.int .i64 2, .int .i64 0, .string ⟨#[98]⟩] 58))
  obtain ⟨w2, hw⟩ : ∃ z, u2.alloc (.cells #[.int .i64 2, .int .i64 0, .string ⟨#[98]⟩] 58) = z := ⟨_, rfl⟩
  replace C2 : Cel w2 u2.heap.size 58 [.int .i64 2, .int .i64 0, .string ⟨#[98]⟩] := by rw [← hw]; exact C2
  have hs2 : u2.heap.size < w2.heap.size := C2.lt
  rw [hw] at D2
  rw [hw]
  clear hw
  obtain ⟨g2, hg⟩ : ∃ g, u2.heap.size = g := ⟨_, rfl⟩
  rw [hg] at C2
  rw [hg]
  clear hg B2
  replace C1 := C1.keep D2
  replace D2 := below_trans D1 D2
  go_wp2_with fail
  refine (Int_any 1 _).mono ?_
  rintro e u3 ⟨rfl, B3⟩
  unfold strV
  go_upto_region 4 with fail
  have C3 := Cel.new u3 58 [.int .i64 1, .int .i64 1, .string ⟨#[]⟩]
  have D3 := below_trans B3 (below_new u3 (.cells #[.int .i64 1, .int .i64 1, .string ⟨#[]⟩] 58))
  obtain ⟨w3, hw⟩ : ∃ z, u3.alloc (.cells #[.int .i64 1, .int .i64 1, .string ⟨#[]⟩] 58) = z := ⟨_, rfl⟩
  replace C3 : Cel w3 u3.heap.size 58 [.int .i64 1, .int .i64 1, .string ⟨#[]⟩] := by rw [← hw]; exact C3
  have hs3 : u3.heap.size < w3.heap.size := C3.lt
  rw [hw] at D3
  rw [hw]
  clear hw
  obtain ⟨g3, hg⟩ : ∃ g, u3.heap.size = g := ⟨_, rfl⟩
  rw [hg] at C3
  rw [hg]
  clear hg B3
  replace C1 := C1.keep D3
  replace C2 := C2.keep D3
  replace D3 := below_trans D2 D3
  go_wp2_with fail
  refine (Int_any 2 _).mono ?_
  rintro e u4 ⟨rfl, B4⟩
  unfold strV
  go_upto_region 5 with fail
  have C4 := Cel.new u4 58 [.int .i64 1, .int .i64 2, .string ⟨#[]⟩]
  have D4 := below_trans B4 (below_new u4 (.cells #[.int .i64 1, .int .i64 2, .string ⟨#[]⟩] 58))
  obtain ⟨w4, hw⟩ : ∃ z, u4.alloc (.cells #[.int .i64 1, .int .i64 2, .string ⟨#[]⟩] 58) = z := ⟨_, rfl⟩
  replace C4 : Cel w4 u4.heap.size 58 [.int .i64 1, .int .i64 2, .string ⟨#[]⟩] := by rw [← hw]; exact C4
  have hs4 : u4.heap.size < w4.heap.size := C4.lt
  rw [hw] at D4
  rw [hw]
  clear hw
  obtain ⟨g4, hg⟩ : ∃ g, u4.heap.size = g := ⟨_, rfl⟩
  rw [hg] at C4
  rw [hg]
  clear hg B4
  replace C1 := C1.keep D4
  replace C2 := C2.keep D4
  replace C3 := C3.keep D4
  replace D4 := below_trans D3 D4
  have HALL : ∀ W, Below w4.heap.size w4 W → (fun w' => w'.cell? ⟨g1, 0, none⟩ = some (.int .i64 2) ∧ w'.cell? ⟨g1, 1, none⟩ = some (.int .i64 0) ∧ w'.cell? ⟨g1, 2, none⟩ = some (.string ⟨#[97]⟩) ∧ w'.cell? ⟨g2, 0, none⟩ = some (.int .i64 2) ∧ w'.cell? ⟨g2, 1, none⟩ = some (.int .i64 0) ∧ w'.cell? ⟨g2, 2, none⟩ = some (.string ⟨#[98]⟩) ∧ w'.cell? ⟨g3, 0, none⟩ = some (.int .i64 1) ∧ w'.cell? ⟨g3, 1, none⟩ = some (.int .i64 1) ∧ w'.cell? ⟨g3, 2, none⟩ = some (.string ⟨#[]⟩) ∧ w'.cell? ⟨g4, 0, none⟩ = some (.int .i64 1) ∧ w'.cell? ⟨g4, 1, none⟩ = some (.int .i64 2) ∧ w'.cell? ⟨g4, 2, none⟩ = some (.string ⟨#[]⟩)) W := fun W hW => ⟨(C1.keep hW).at_ (j := 0) rfl, (C1.keep hW).at_ (j := 1) rfl, (C1.keep hW).at_ (j := 2) rfl, (C2.keep hW).at_ (j := 0) rfl, (C2.keep hW).at_ (j := 1) rfl, (C2.keep hW).at_ (j := 2) rfl, (C3.keep hW).at_ (j := 0) rfl, (C3.keep hW).at_ (j := 1) rfl, (C3.keep hW).at_ (j := 2) rfl, (C4.keep hW).at_ (j := 0) rfl, (C4.keep hW).at_ (j := 1) rfl, (C4.keep hW).at_ (j := 2) rfl⟩
  try simp only [List.append_eq, List.cons_append, List.nil_append]
  refine wp_region_noPanic ?_
  refine wp_region_late (fun w' => w'.cell? ⟨g1, 0, none⟩ = some (.int .i64 2) ∧ w'.cell? ⟨g1, 1, none⟩ = some (.int .i64 0) ∧ w'.cell? ⟨g1, 2, none⟩ = some (.string ⟨#[97]⟩) ∧ w'.cell? ⟨g2, 0, none⟩ = some (.int .i64 2) ∧ w'.cell? ⟨g2, 1, none⟩ = some (.int .i64 0) ∧ w'.cell? ⟨g2, 2, none⟩ = some (.string ⟨#[98]⟩) ∧ w'.cell? ⟨g3, 0, none⟩ = some (.int .i64 1) ∧ w'.cell? ⟨g3, 1, none⟩ = some (.int .i64 1) ∧ w'.cell? ⟨g3, 2, none⟩ = some (.string ⟨#[]⟩) ∧ w'.cell? ⟨g4, 0, none⟩ = some (.int .i64 1) ∧ w'.cell? ⟨g4, 1, none⟩ = some (.int .i64 2) ∧ w'.cell? ⟨g4, 2, none⟩ = some (.string ⟨#[]⟩)) 17 (by kernel_rfl) (HALL _ (Below.refl _ _).drew) (fun _ => ?_)
  obtain ⟨wd, hwd⟩ : ∃ x : World, w4.drew = x := ⟨_, rfl⟩
  have bD : Below w4.heap.size w4 wd := by rw [← hwd]; exact (Below.refl _ _).drew
  rw [hwd]
  clear hwd
  have hHeld := HALL _ bD
  refine any_take (by kernel_rfl) (i := 0) (oi := _) (v := ?_) rfl rfl (by kernel_rfl) (by kernel_rfl) (by kernel_rfl) (fun _ _ _ h => h) (Or.inl ⟨by rfl, ?_⟩) hHeld ?_
  rotate_left
  · intro w' hSw; try dsimp only at hSw
    go_simp
    try with_reducible rfl
  try simp only [puts, gets]
  refine any_take (by kernel_rfl) (i := 1) (oi := _) (v := ?_) rfl rfl (by kernel_rfl) (by kernel_rfl) (by kernel_rfl) (fun _ _ _ h => h) (Or.inl ⟨by rfl, ?_⟩) hHeld ?_
  rotate_left
  · intro w' hSw; try dsimp only at hSw
    go_simp
    try with_reducible rfl
  try simp only [puts, gets]
  refine any_take (by kernel_rfl) (i := 5) (oi := _) (v := ?_) rfl rfl (by kernel_rfl) (by kernel_rfl) (by kernel_rfl) (fun _ _ _ h => h) (Or.inl ⟨by rfl, ?_⟩) hHeld ?_
  rotate_left
  · intro w' hSw; try dsimp only at hSw
    go_simp
    try with_reducible rfl
  try simp only [puts, gets]
  refine any_take (by kernel_rfl) (i := 6) (oi := _) (v := ?_) rfl rfl (by kernel_rfl) (by kernel_rfl) (by kernel_rfl) (fun _ _ _ h => h) (Or.inl ⟨by rfl, ?_⟩) hHeld ?_
  rotate_left
  · intro w' hSw; try dsimp only at hSw
    go_simp
    try with_reducible rfl
  try simp only [puts, gets]
  refine any_take (by kernel_rfl) (i := 10) (oi := _) (v := ?_) rfl rfl (by kernel_rfl) (by kernel_rfl) (by kernel_rfl) (fun _ _ _ h => h) (Or.inl ⟨by rfl, ?_⟩) hHeld ?_
  rotate_left
  · intro w' hSw; try dsimp only at hSw
    go_simp
    try with_reducible rfl
  try simp only [puts, gets]
  refine any_take (by kernel_rfl) (i := 11) (oi := _) (v := ?_) rfl rfl (by kernel_rfl) (by kernel_rfl) (by kernel_rfl) (fun _ _ _ h => h) (Or.inl ⟨by rfl, ?_⟩) hHeld ?_
  rotate_left
  · intro w' hSw; try dsimp only at hSw
    go_simp
    try with_reducible rfl
  try simp only [puts, gets]
  refine any_merge (fun f d a w => f = 2 ∧ d = #[true, true, true, true, true, true, true, true, true, true, true, true, true, true, true, false, false] ∧ ∃ (p0 : Option Addr) (p1 : Option Addr) (p2 : Option Addr) (q0 : Option Addr) (q1 : Option Addr) (q2 : Option Addr), a = ⟨#[(.bool false), (.pointer (some ⟨g1, 0, none⟩)), (.pointer (some ⟨g2, 0, none⟩)), (.pointer (some ⟨g3, 0, none⟩)), (.pointer (some ⟨g4, 0, none⟩)), undef, undef, undef, undef, undef, undef, undef, undef, (.agg #[.int .i64 2, .int .i64 0, .string ⟨#[97]⟩]), (.agg #[.int .i64 2, .int .i64 0, .string ⟨#[98]⟩]), (.agg #[.int .i64 1, .int .i64 1, .string ⟨#[]⟩]), (.agg #[.int .i64 1, .int .i64 2, .string ⟨#[]⟩]), (.agg #[.int .i64 2, .int .i64 0, .string ⟨#[97]⟩]), (.agg #[.int .i64 1, .int .i64 1, .string ⟨#[]⟩]), (.slice p0 2 2), (.slice q0 1 1), (.agg #[.slice p0 2 2, .slice q0 1 1]), (.agg #[.int .i64 2, .int .i64 0, .string ⟨#[97]⟩]), (.agg #[.int .i64 1, .int .i64 2, .string ⟨#[]⟩]), (.slice p1 2 2), (.slice q1 1 1), (.agg #[.slice p1 2 2, .slice q1 1 1]), (.agg #[.int .i64 2, .int .i64 0, .string ⟨#[98]⟩]), (.agg #[.int .i64 1, .int .i64 1, .string ⟨#[]⟩]), (.slice p2 2 2), (.slice q2 1 1), (.agg #[.slice p2 2 2, .slice q2 1 1]), undef, undef, undef, undef, undef, undef, undef, undef, undef, undef, undef, undef, undef, undef, undef, undef, undef, undef, undef, undef, undef, undef, undef, undef, undef, undef, undef, undef, undef, undef, undef, undef, undef, undef, undef, undef, undef, undef, undef, undef, undef, undef, undef, undef, undef, undef, undef, undef, undef, undef, undef, undef, undef, undef, undef, undef, undef, undef, undef, undef, undef, undef, undef, undef, undef, undef, undef, undef, undef, undef, undef, undef, undef, undef, undef, undef, undef, undef, undef, undef, undef, undef, undef, undef, undef, undef, undef, undef, undef, undef, undef, undef, undef, undef, undef, undef, undef, undef, undef, undef, undef, undef, undef, undef, undef, undef, undef, undef, undef, undef, undef, undef, undef, undef, undef, undef, undef, undef, undef, undef, undef, undef, undef, undef, undef, undef, undef, undef, undef, undef, undef, undef, undef, undef, undef, undef, undef, undef, undef, undef, undef, undef, undef, undef, undef, undef, undef, undef, undef, undef, undef, undef, undef, undef, undef, undef, undef, undef, undef, undef, undef, undef, undef], []⟩ ∧ IsVals w (.slice p0 2 2) tA1 ∧ IsVals w (.slice p1 2 2) tA2 ∧ IsVals w (.slice p2 2 2) tB1 ∧ IsSpans w (.slice q0 1 1) [(0, 5)] ∧ IsSpans w (.slice q1 1 1) [(0, 5)] ∧ IsSpans w (.slice q2 1 1) [(0, 5)] ∧ Below w4.heap.size w4 w) ?mM012_3 (fun M012_3 => ?_)
  case mM012_3 =>
    rintro f d a w ⟨rfl, rfl, p0, p1, p2, q0, q1, q2, rfl, v0, v1, v2, s0, s1, s2, bW⟩
    as_aux_lemma =>
      have hHeld := HALL _ bW
      have nX := below_new w (.cells #[.slice p0 2 2, .slice q0 1 1, .slice p1 2 2, .slice q1 1 1, .slice p2 2 2, .slice q2 1 1] 44)
      have R5 : IsRel (w.alloc (.cells #[.slice p0 2 2, .slice q0 1 1, .slice p1 2 2, .slice q1 1 1, .slice p2 2 2, .slice q2 1 1] 44)) (.slice (some ⟨w.heap.size, 0, none⟩) 3 3) [(⟨p0, 2, tA1, q0, 1, s05⟩ : RR), (⟨p1, 2, tA2, q1, 1, s05⟩ : RR), (⟨p2, 2, tB1, q2, 1, s05⟩ : RR)] := isRel_lit (l := [(⟨p0, 2, tA1, q0, 1, s05⟩ : RR), (⟨p1, 2, tA2, q1, 1, s05⟩ : RR), (⟨p2, 2, tB1, q2, 1, s05⟩ : RR)]) (by simp) (fun x hx => by
        rcases List.mem_cons.1 hx with rfl | hx
        · exact ⟨v0, s0⟩
        · rcases List.mem_cons.1 hx with rfl | hx
          · exact ⟨v1, s1⟩
          · rw [List.mem_singleton.1 hx]; exact ⟨v2, s2⟩)
      have HRS : Hid (rows [(⟨p0, 2, tA1, q0, 1, s05⟩ : RR), (⟨p1, 2, tA2, q1, 1, s05⟩ : RR), (⟨p2, 2, tB1, q2, 1, s05⟩ : RR)] = thF) := Lib.hid rfl
      have HSM : Hid (Sml 10000 [(⟨p0, 2, tA1, q0, 1, s05⟩ : RR), (⟨p1, 2, tA2, q1, 1, s05⟩ : RR), (⟨p2, 2, tB1, q2, 1, s05⟩ : RR)]) := Lib.hid ⟨by simp, fun x hx => by
        rcases List.mem_cons.1 hx with rfl | hx
        · exact ⟨by simp, by simp⟩
        · rcases List.mem_cons.1 hx with rfl | hx
          · exact ⟨by simp, by simp⟩
          · rw [List.mem_singleton.1 hx]; exact ⟨by simp, by simp⟩⟩
      clear v0 v1 v2 s0 s1 s2
      refine any_next (i := 15) (by kernel_rfl) rfl rfl (fun K hK => ?_)
      refine step_lit fitsR24 (by kernel_rfl) _ rfl _ rfl _ #[.slice p0 2 2, .slice q0 1 1, .slice p1 2 2, .slice q1 1 1, .slice p2 2 2, .slice q2 1 1] base44_3 (by decide) (by decide) [(0, .agg #[.slice p0 2 2, .slice q0 1 1]), (1, .agg #[.slice p1 2 2, .slice q1 1 1]), (2, .agg #[.slice p2 2 2, .slice q2 1 1])] (by kernel_rfl) (by kernel_rfl) ?_
      refine hK.out _ _ (HALL _ (bW.trans (nX.mono bW.size))) (fun hHeld => ?_)
      clear hK K
      try simp only [puts, gets]
      refine any_take (by kernel_rfl) (i := 16) (oi := _) (v := ?_) rfl rfl (by kernel_rfl) (by kernel_rfl) (by kernel_rfl) (fun _ _ _ h => h) (Or.inl ⟨by rfl, ?_⟩) hHeld ?_
      rotate_left
      · intro w' hSw; try dsimp only at hSw
        go_simp
        try with_reducible rfl
      try simp only [puts, gets]
      refine any_done (by kernel_rfl) ?_ _
      refine NoPanic.normal ?_
      have B5 := D4.trans ((bW.trans (nX.mono bW.size)).mono D4.size)
      obtain ⟨w5, hw5⟩ : ∃ z, w.alloc (.cells #[.slice p0 2 2, .slice q0 1 1, .slice p1 2 2, .slice q1 1 1, .slice p2 2 2, .slice q2 1 1] 44) = z := ⟨_, rfl⟩
      rw [hw5] at R5 B5
      rw [hw5]
      have C1 := C1.keep (bW.trans (nX.mono bW.size))
      have C2 := C2.keep (bW.trans (nX.mono bW.size))
      have C3 := C3.keep (bW.trans (nX.mono bW.size))
      have C4 := C4.keep (bW.trans (nX.mono bW.size))
      rw [hw5] at C1 C2 C3 C4
      clear hw5
      obtain ⟨g5, hg⟩ : ∃ g, w.heap.size = g := ⟨_, rfl⟩
      rw [hg] at R5
      rw [hg]
      clear hg nX HALL hHeld bW
      obtain ⟨rs, hrs⟩ : ∃ l, [(⟨p0, 2, tA1, q0, 1, s05⟩ : RR), (⟨p1, 2, tA2, q1, 1, s05⟩ : RR), (⟨p2, 2, tB1, q2, 1, s05⟩ : RR)] = l := ⟨_, rfl⟩
      rw [hrs] at R5 HRS HSM
      clear hrs
      go_wp2_with fail
      refine (TBuild_any _ 2 rs _ (hT.keep B5) R5 HSM.out).mono ?_
      rintro e w6 ⟨t, rfl, ht, HT, B6⟩
      unfold trV
      have HTT := Lib.hid (built_two HRS.out HT.out)
      clear HT
      replace C1 := C1.keep B6
      replace C2 := C2.keep B6
      replace C3 := C3.keep B6
      replace C4 := C4.keep B6
      replace R5 := R5.keep B6
      replace B6 := below_trans B5 B6
      have X6 := Cel.new w6 64 [t.vv, t.kv, t.wv]
      have N6 := below_new w6 (.cells #[t.vv, t.kv, t.wv] 64)
      go_upto_region 7 with fail
      obtain ⟨w7, hw7⟩ : ∃ z, w6.alloc (.cells #[t.vv, t.kv, t.wv] 64) = z := ⟨_, rfl⟩
      replace X6 : Cel w7 w6.heap.size 64 [t.vv, t.kv, t.wv] := by rw [← hw7]; exact X6
      rw [hw7] at N6
      rw [hw7]
      clear hw7
      obtain ⟨b6, hb6⟩ : ∃ g, w6.heap.size = g := ⟨_, rfl⟩
      rw [hb6] at X6
      rw [hb6]
      clear hb6
      replace ht := ht.keep N6
      replace C1 := C1.keep N6
      replace C2 := C2.keep N6
      replace C3 := C3.keep N6
      replace C4 := C4.keep N6
      replace R5 := R5.keep N6
      replace B6 := below_trans B6 N6
      clear N6
      obtain ⟨hvs, hks, hss⟩ := tr_parts HTT.out
      obtain ⟨ka, kb, hks, hka, hkb⟩ := map_two hks
      obtain ⟨hav, hak, has⟩ := tr_parts hka
      obtain ⟨hbv, hbk, hbs⟩ := tr_parts hkb
      have hbl := congrArg List.length hbk
      rw [List.length_map] at hbl
      have hkvl : t.kv = .slice t.pk 2 t.ck := by show Value.slice t.pk t.ks.length t.ck = _; rw [hks]; rfl
      have hvvl : t.vv = .slice t.pv 2 t.cv := by show Value.slice t.pv t.vs.length t.cv = _; rw [hvs]; rfl
      have hkav : ka.vv = .slice ka.pv 2 ka.cv := by show Value.slice ka.pv ka.vs.length ka.cv = _; rw [hav]; rfl
      have hkbk : kb.kv = .slice kb.pk 1 kb.ck := by show Value.slice kb.pk kb.ks.length kb.ck = _; rw [hbl]; rfl
      obtain ⟨bk, ok, ek, k0, k1, k2, hkaok⟩ := ht.tries.at_ (i := 0) (x := ka) (by rw [hks]; rfl)
      obtain ⟨bk', ok', ek', l0, l1, l2, hkbok⟩ := ht.tries.at_ (i := 1) (x := kb) (by rw [hks]; rfl)
      rw [ek] at ek'
      cases ek'
      simp only [Nat.zero_mul, Nat.one_mul, Nat.add_zero] at k0 k1 k2 l0 l1 l2
      have q0 := X6.at_ (j := 0) rfl
      have q1 := X6.at_ (j := 1) rfl
      have q2 := X6.at_ (j := 2) rfl
      rw [hvvl] at q0
      rw [hkvl, ek] at q1
      rw [hkav] at k0
      rw [hkbk] at l1
      replace hT := hT.keep B6
      have ac0 := C1.at_ (j := 0) rfl
      have ac1 := C1.at_ (j := 1) rfl
      have ac2 := C1.at_ (j := 2) rfl
      have bc0 := C2.at_ (j := 0) rfl
      have bc1 := C2.at_ (j := 1) rfl
      have bc2 := C2.at_ (j := 2) rfl
      have oc0 := C3.at_ (j := 0) rfl
      have oc1 := C3.at_ (j := 1) rfl
      have oc2 := C3.at_ (j := 2) rfl
      have tc0 := C4.at_ (j := 0) rfl
      have tc1 := C4.at_ (j := 1) rfl
      have tc2 := C4.at_ (j := 2) rfl
      have HSQ : Sq t.tr := by rw [HTT.out]; exact sq_th
      have HLI : Lim t.tr := by rw [HTT.out]; exact lim_th
      have HSQ := Lib.hid HSQ
      have HLI := Lib.hid HLI
      have HV := Lib.hid hvvl
      have HK := Lib.hid hkvl
      have HE := Lib.hid ek
      have HKA := Lib.hid hkav
      have HKB := Lib.hid hkbk
      have HVS := Lib.hid hvs
      have HKS := Lib.hid hks
      have HTA := Lib.hid hka
      have HTB := Lib.hid hkb
      have HAV := Lib.hid hav
      clear hvvl hkvl ek hkav hkbk hvs hks hka hkb hav hak has hbv hbk hbs hbl hss
      obtain ⟨bv, ov, ev, d0, d1, d2⟩ := vals_at' ht.vals (i := 1) (x := vlB) (by rw [HVS.out]; rfl)
      obtain ⟨ba, oa, ea, e0, e1, e2⟩ := vals_at' hkaok.vals (i := 1) (x := intVl 2) (by rw [HAV.out]; rfl)
      rw [ev] at q0
      rw [ea] at k0
      simp only [Nat.one_mul] at d0 d1 d2 e0 e1 e2
      have HEV := Lib.hid ev
      have HEA := Lib.hid ea
      unfold strV at d2 e2
      replace d0 : w7.cell? ⟨bv, ov + 3, none⟩ = some (.int .i64 2) := d0
      replace d1 : w7.cell? ⟨bv, ov + 3 + 1, none⟩ = some (.int .i64 0) := d1
      replace d2 : w7.cell? ⟨bv, ov + 3 + 2, none⟩ = some (.string ⟨#[98]⟩) := d2
      replace e0 : w7.cell? ⟨ba, oa + 3, none⟩ = some (.int .i64 1) := e0
      replace e1 : w7.cell? ⟨ba, oa + 3 + 1, none⟩ = some (.int .i64 2) := e1
      replace e2 : w7.cell? ⟨ba, oa + 3 + 2, none⟩ = some (.string ⟨#[]⟩) := e2
      clear ev ea
      have TV := Lib.hid (show trV t = (.agg #[.slice (some ⟨bv, ov, none⟩) 2 t.cv, .slice (some ⟨bk, ok, none⟩) 2 t.ck, t.wv]) by unfold trV; rw [HV.out, HK.out, HE.out, HEV.out])
      have SUB : ∀ (W : World) (vp : Value) (p : List Vl), TrOk W t → IsVals W vp p → Calls Tryd.prog 54 #[(.agg #[.slice (some ⟨bv, ov, none⟩) 2 t.cv, .slice (some ⟨bk, ok, none⟩) 2 t.ck, t.wv]), vp] W (SubRet theT p W) := fun W vp p h1 h2 => by
        have := Sub_any t vp p W h1 HSQ.out h2
        rw [TV.out, HTT.out] at this
        exact this
      have nX := below_new w7 (.cells #[.int .i64 2, .int .i64 0, .string ⟨#[97]⟩] 58)
      have hp : IsVals (w7.alloc (.cells #[.int .i64 2, .int .i64 0, .string ⟨#[97]⟩] 58)) (.slice (some ⟨w7.heap.size, 0, none⟩) 1 1) [vlA] := IsRows.lit w7 [vlA] encsV (by decide)
      have ht2 := ht.keep nX
      go_wp2_with (refine wpList_lit fitsV rfl _ rfl _ rfl _ #[.int .i64 2, .int .i64 0, .string ⟨#[97]⟩] base58_1 (by decide) (by decide) [(0, .agg #[.int .i64 2, .int .i64 0, .string ⟨#[97]⟩])] (by kernel_rfl) (by kernel_rfl) ?_)
      refine (SUB _ _ [vlA] ht2 hp).mono ?_
      rintro e wX ⟨nA, hA, rfl, hoA, -, HSA, bX⟩
      have bN := nX.trans (bX.mono nX.size)
      clear nX hp ht2 bX
      obtain ⟨rfl, HXA⟩ : hA = true ∧ nA.tr = kidA := by
        have := sub_a HSA.out.1
        cases hA with
        | true => exact ⟨rfl, by simpa using this⟩
        | false => simp at this
      clear HSA
      unfold trV
      replace C1 := C1.keep bN
      replace C2 := C2.keep bN
      replace C3 := C3.keep bN
      replace C4 := C4.keep bN
      replace R5 := R5.keep bN
      replace ht := ht.keep bN
      replace hkaok := hkaok.keep bN
      replace hkbok := hkbok.keep bN
      replace hT := hT.keep bN
      replace q0 := cell_keep bN q0
      replace q1 := cell_keep bN q1
      replace q2 := cell_keep bN q2
      replace k0 := cell_keep bN k0
      replace k1 := cell_keep bN k1
      replace k2 := cell_keep bN k2
      replace l0 := cell_keep bN l0
      replace l1 := cell_keep bN l1
      replace l2 := cell_keep bN l2
      replace ac0 := cell_keep bN ac0
      replace ac1 := cell_keep bN ac1
      replace ac2 := cell_keep bN ac2
      replace bc0 := cell_keep bN bc0
      replace bc1 := cell_keep bN bc1
      replace bc2 := cell_keep bN bc2
      replace oc0 := cell_keep bN oc0
      replace oc1 := cell_keep bN oc1
      replace oc2 := cell_keep bN oc2
      replace tc0 := cell_keep bN tc0
      replace tc1 := cell_keep bN tc1
      replace tc2 := cell_keep bN tc2
      replace d0 := cell_keep bN d0
      replace d1 := cell_keep bN d1
      replace d2 := cell_keep bN d2
      replace e0 := cell_keep bN e0
      replace e1 := cell_keep bN e1
      replace e2 := cell_keep bN e2
      replace B6 := below_trans B6 bN
      clear bN
      have CA := Cel.new wX 64 [nA.vv, nA.kv, nA.wv]
      have bN := below_new wX (.cells #[nA.vv, nA.kv, nA.wv] 64)
      go_upto_region 10 with fail
      obtain ⟨wY, hw⟩ : ∃ z, wX.alloc (.cells #[nA.vv, nA.kv, nA.wv] 64) = z := ⟨_, rfl⟩
      replace CA : Cel wY wX.heap.size 64 [nA.vv, nA.kv, nA.wv] := by rw [← hw]; exact CA
      rw [hw] at bN
      try rw [hw]
      clear hw
      obtain ⟨b7, hb⟩ : ∃ g, wX.heap.size = g := ⟨_, rfl⟩
      rw [hb] at CA
      try rw [hb]
      clear hb
      replace hoA := hoA.keep bN
      replace C1 := C1.keep bN
      replace C2 := C2.keep bN
      replace C3 := C3.keep bN
      replace C4 := C4.keep bN
      replace R5 := R5.keep bN
      replace ht := ht.keep bN
      replace hkaok := hkaok.keep bN
      replace hkbok := hkbok.keep bN
      replace hT := hT.keep bN
      replace q0 := cell_keep bN q0
      replace q1 := cell_keep bN q1
      replace q2 := cell_keep bN q2
      replace k0 := cell_keep bN k0
      replace k1 := cell_keep bN k1
      replace k2 := cell_keep bN k2
      replace l0 := cell_keep bN l0
      replace l1 := cell_keep bN l1
      replace l2 := cell_keep bN l2
      replace ac0 := cell_keep bN ac0
      replace ac1 := cell_keep bN ac1
      replace ac2 := cell_keep bN ac2
      replace bc0 := cell_keep bN bc0
      replace bc1 := cell_keep bN bc1
      replace bc2 := cell_keep bN bc2
      replace oc0 := cell_keep bN oc0
      replace oc1 := cell_keep bN oc1
      replace oc2 := cell_keep bN oc2
      replace tc0 := cell_keep bN tc0
      replace tc1 := cell_keep bN tc1
      replace tc2 := cell_keep bN tc2
      replace d0 := cell_keep bN d0
      replace d1 := cell_keep bN d1
      replace d2 := cell_keep bN d2
      replace e0 := cell_keep bN e0
      replace e1 := cell_keep bN e1
      replace e2 := cell_keep bN e2
      replace B6 := below_trans B6 bN
      clear bN
      have x0 := CA.at_ (j := 0) rfl
      have x1 := CA.at_ (j := 1) rfl
      have x2 := CA.at_ (j := 2) rfl
      have nX := below_new wY (.cells #[.int .i64 1, .int .i64 1, .string ⟨#[]⟩] 58)
      have hp : IsVals (wY.alloc (.cells #[.int .i64 1, .int .i64 1, .string ⟨#[]⟩] 58)) (.slice (some ⟨wY.heap.size, 0, none⟩) 1 1) [intVl 1] := IsRows.lit wY [intVl 1] encsV (by decide)
      have ht2 := ht.keep nX
      go_wp2_with (refine wpList_lit fitsV rfl _ rfl _ rfl _ #[.int .i64 1, .int .i64 1, .string ⟨#[]⟩] base58_1 (by decide) (by decide) [(0, .agg #[.int .i64 1, .int .i64 1, .string ⟨#[]⟩])] (by kernel_rfl) (by kernel_rfl) ?_)
      refine (SUB _ _ [intVl 1] ht2 hp).mono ?_
      rintro e wX ⟨n1, h1, rfl, ho1, -, HS1, bX⟩
      have bN := nX.trans (bX.mono nX.size)
      clear nX hp ht2 bX
      obtain ⟨rfl, rfl⟩ : h1 = false ∧ n1 = noTr := by
        have := sub_1 HS1.out.1
        cases h1 with
        | false => exact ⟨rfl, HS1.out.2 rfl⟩
        | true => simp at this
      clear HS1 ho1
      unfold trV
      replace C1 := C1.keep bN
      replace C2 := C2.keep bN
      replace C3 := C3.keep bN
      replace C4 := C4.keep bN
      replace R5 := R5.keep bN
      replace ht := ht.keep bN
      replace hkaok := hkaok.keep bN
      replace hkbok := hkbok.keep bN
      replace hT := hT.keep bN
      replace CA := CA.keep bN
      replace hoA := hoA.keep bN
      replace q0 := cell_keep bN q0
      replace q1 := cell_keep bN q1
      replace q2 := cell_keep bN q2
      replace k0 := cell_keep bN k0
      replace k1 := cell_keep bN k1
      replace k2 := cell_keep bN k2
      replace l0 := cell_keep bN l0
      replace l1 := cell_keep bN l1
      replace l2 := cell_keep bN l2
      replace ac0 := cell_keep bN ac0
      replace ac1 := cell_keep bN ac1
      replace ac2 := cell_keep bN ac2
      replace bc0 := cell_keep bN bc0
      replace bc1 := cell_keep bN bc1
      replace bc2 := cell_keep bN bc2
      replace oc0 := cell_keep bN oc0
      replace oc1 := cell_keep bN oc1
      replace oc2 := cell_keep bN oc2
      replace tc0 := cell_keep bN tc0
      replace tc1 := cell_keep bN tc1
      replace tc2 := cell_keep bN tc2
      replace d0 := cell_keep bN d0
      replace d1 := cell_keep bN d1
      replace d2 := cell_keep bN d2
      replace e0 := cell_keep bN e0
      replace e1 := cell_keep bN e1
      replace e2 := cell_keep bN e2
      replace x0 := cell_keep bN x0
      replace x1 := cell_keep bN x1
      replace x2 := cell_keep bN x2
      replace B6 := below_trans B6 bN
      clear bN
      have CN := Cel.new wX 64 [noTr.vv, noTr.kv, noTr.wv]
      have bN := below_new wX (.cells #[noTr.vv, noTr.kv, noTr.wv] 64)
      go_upto_region 11 with fail
      obtain ⟨wY, hw⟩ : ∃ z, wX.alloc (.cells #[noTr.vv, noTr.kv, noTr.wv] 64) = z := ⟨_, rfl⟩
      replace CN : Cel wY wX.heap.size 64 [noTr.vv, noTr.kv, noTr.wv] := by rw [← hw]; exact CN
      rw [hw] at bN
      try rw [hw]
      clear hw
      obtain ⟨b9, hb⟩ : ∃ g, wX.heap.size = g := ⟨_, rfl⟩
      rw [hb] at CN
      try rw [hb]
      clear hb
      replace C1 := C1.keep bN
      replace C2 := C2.keep bN
      replace C3 := C3.keep bN
      replace C4 := C4.keep bN
      replace R5 := R5.keep bN
      replace ht := ht.keep bN
      replace hkaok := hkaok.keep bN
      replace hkbok := hkbok.keep bN
      replace hT := hT.keep bN
      replace CA := CA.keep bN
      replace hoA := hoA.keep bN
      replace q0 := cell_keep bN q0
      replace q1 := cell_keep bN q1
      replace q2 := cell_keep bN q2
      replace k0 := cell_keep bN k0
      replace k1 := cell_keep bN k1
      replace k2 := cell_keep bN k2
      replace l0 := cell_keep bN l0
      replace l1 := cell_keep bN l1
      replace l2 := cell_keep bN l2
      replace ac0 := cell_keep bN ac0
      replace ac1 := cell_keep bN ac1
      replace ac2 := cell_keep bN ac2
      replace bc0 := cell_keep bN bc0
      replace bc1 := cell_keep bN bc1
      replace bc2 := cell_keep bN bc2
      replace oc0 := cell_keep bN oc0
      replace oc1 := cell_keep bN oc1
      replace oc2 := cell_keep bN oc2
      replace tc0 := cell_keep bN tc0
      replace tc1 := cell_keep bN tc1
      replace tc2 := cell_keep bN tc2
      replace d0 := cell_keep bN d0
      replace d1 := cell_keep bN d1
      replace d2 := cell_keep bN d2
      replace e0 := cell_keep bN e0
      replace e1 := cell_keep bN e1
      replace e2 := cell_keep bN e2
      replace x0 := cell_keep bN x0
      replace x1 := cell_keep bN x1
      replace x2 := cell_keep bN x2
      replace B6 := below_trans B6 bN
      clear bN
      have nX := below_new wY (.cells #[.int .i64 2, .int .i64 0, .string ⟨#[98]⟩, .int .i64 1, .int .i64 1, .string ⟨#[]⟩] 58)
      have hp : IsVals (wY.alloc (.cells #[.int .i64 2, .int .i64 0, .string ⟨#[98]⟩, .int .i64 1, .int .i64 1, .string ⟨#[]⟩] 58)) (.slice (some ⟨wY.heap.size, 0, none⟩) 2 2) [vlB, intVl 1] := IsRows.lit wY [vlB, intVl 1] encsV (by decide)
      have ht2 := ht.keep nX
      go_wp2_with (refine wpList_lit fitsV rfl _ rfl _ rfl _ #[.int .i64 2, .int .i64 0, .string ⟨#[98]⟩, .int .i64 1, .int .i64 1, .string ⟨#[]⟩] base58_2 (by decide) (by decide) [(0, .agg #[.int .i64 2, .int .i64 0, .string ⟨#[98]⟩]), (1, .agg #[.int .i64 1, .int .i64 1, .string ⟨#[]⟩])] (by kernel_rfl) (by kernel_rfl) ?_)
      refine (SUB _ _ [vlB, intVl 1] ht2 hp).mono ?_
      rintro e wX ⟨nB, hB, rfl, hoB, -, HSB, bX⟩
      have bN := nX.trans (bX.mono nX.size)
      clear nX hp ht2 bX
      obtain ⟨rfl, HXB⟩ : hB = true ∧ nB.tr = leafT := by
        have := sub_b1 HSB.out.1
        cases hB with
        | true => exact ⟨rfl, by simpa using this⟩
        | false => simp at this
      clear HSB
      unfold trV
      replace C1 := C1.keep bN
      replace C2 := C2.keep bN
      replace C3 := C3.keep bN
      replace C4 := C4.keep bN
      replace R5 := R5.keep bN
      replace ht := ht.keep bN
      replace hkaok := hkaok.keep bN
      replace hkbok := hkbok.keep bN
      replace hT := hT.keep bN
      replace CA := CA.keep bN
      replace hoA := hoA.keep bN
      replace q0 := cell_keep bN q0
      replace q1 := cell_keep bN q1
      replace q2 := cell_keep bN q2
      replace k0 := cell_keep bN k0
      replace k1 := cell_keep bN k1
      replace k2 := cell_keep bN k2
      replace l0 := cell_keep bN l0
      replace l1 := cell_keep bN l1
      replace l2 := cell_keep bN l2
      replace ac0 := cell_keep bN ac0
      replace ac1 := cell_keep bN ac1
      replace ac2 := cell_keep bN ac2
      replace bc0 := cell_keep bN bc0
      replace bc1 := cell_keep bN bc1
      replace bc2 := cell_keep bN bc2
      replace oc0 := cell_keep bN oc0
      replace oc1 := cell_keep bN oc1
      replace oc2 := cell_keep bN oc2
      replace tc0 := cell_keep bN tc0
      replace tc1 := cell_keep bN tc1
      replace tc2 := cell_keep bN tc2
      replace d0 := cell_keep bN d0
      replace d1 := cell_keep bN d1
      replace d2 := cell_keep bN d2
      replace e0 := cell_keep bN e0
      replace e1 := cell_keep bN e1
      replace e2 := cell_keep bN e2
      replace x0 := cell_keep bN x0
      replace x1 := cell_keep bN x1
      replace x2 := cell_keep bN x2
      replace B6 := below_trans B6 bN
      clear bN
      have CB := Cel.new wX 64 [nB.vv, nB.kv, nB.wv]
      have bN := below_new wX (.cells #[nB.vv, nB.kv, nB.wv] 64)
      replace hoB := hoB.keep bN
      replace C1 := C1.keep bN
      replace C2 := C2.keep bN
      replace C3 := C3.keep bN
      replace C4 := C4.keep bN
      replace R5 := R5.keep bN
      replace ht := ht.keep bN
      replace hkaok := hkaok.keep bN
      replace hkbok := hkbok.keep bN
      replace hT := hT.keep bN
      replace CA := CA.keep bN
      replace hoA := hoA.keep bN
      replace q0 := cell_keep bN q0
      replace q1 := cell_keep bN q1
      replace q2 := cell_keep bN q2
      replace k0 := cell_keep bN k0
      replace k1 := cell_keep bN k1
      replace k2 := cell_keep bN k2
      replace l0 := cell_keep bN l0
      replace l1 := cell_keep bN l1
      replace l2 := cell_keep bN l2
      replace ac0 := cell_keep bN ac0
      replace ac1 := cell_keep bN ac1
      replace ac2 := cell_keep bN ac2
      replace bc0 := cell_keep bN bc0
      replace bc1 := cell_keep bN bc1
      replace bc2 := cell_keep bN bc2
      replace oc0 := cell_keep bN oc0
      replace oc1 := cell_keep bN oc1
      replace oc2 := cell_keep bN oc2
      replace tc0 := cell_keep bN tc0
      replace tc1 := cell_keep bN tc1
      replace tc2 := cell_keep bN tc2
      replace d0 := cell_keep bN d0
      replace d1 := cell_keep bN d1
      replace d2 := cell_keep bN d2
      replace e0 := cell_keep bN e0
      replace e1 := cell_keep bN e1
      replace e2 := cell_keep bN e2
      replace x0 := cell_keep bN x0
      replace x1 := cell_keep bN x1
      replace x2 := cell_keep bN x2
      replace B6 := below_trans B6 bN
      clear bN
      obtain ⟨-, -, hBs⟩ := tr_parts HXB
      have hBw : nB.wv = .slice nB.pw 1 nB.cw := by show Value.slice nB.pw nB.s.length nB.cw = _; rw [hBs]; rfl
      have HBS := Lib.hid hBs
      obtain ⟨_, _, er, hsr, -⟩ := hoB.spans.rows
      injection er with er1 er2 er3
      subst er1
      obtain ⟨bs, os, ep, hsc⟩ := hsr.at_ (i := 0) (x := (0, 5)) (by rw [hBs]; rfl)
      have r0 := hsc 0 (0, 5) (by rw [hBs]; rfl) 0 _ rfl
      have r1 := hsc 0 (0, 5) (by rw [hBs]; rfl) 1 _ rfl
      simp only [Nat.zero_mul, Nat.add_zero] at r0 r1
      have y2 := (CB.at_ (j := 2) rfl).trans (show some nB.wv = some (.slice (some ⟨bs, os, none⟩) 1 nB.cw) by rw [hBw, ep])
      clear hsr hsc er2 er3 ep hBw hBs
      have hqb : ∀ w, (binOp .eql 58 (.agg #[.int .i64 2, .int .i64 0, .string ⟨#[98]⟩]) (.agg #[.int .i64 2, .int .i64 0, .string ⟨#[98]⟩])).run Tryd.prog w = .ok (.bool true) w := fun w => (run_eq_vl vlB vlB w).trans (by rw [decide_eq_true rfl])
      have hq2 : ∀ w, (binOp .eql 58 (.agg #[.int .i64 1, .int .i64 2, .string ⟨#[]⟩]) (.agg #[.int .i64 1, .int .i64 2, .string ⟨#[]⟩])).run Tryd.prog w = .ok (.bool true) w := fun w => (run_eq_vl (intVl 2) (intVl 2) w).trans (by rw [decide_eq_true rfl])
      have hgd := run_guard_vl .eql
      have HSAME := fun W (h1 : TrOk W nA) (h2 : TrOk W ka) => same_all 4 (by decide) nA ka W h1 h2
      unfold trV at HSAME
      rw [HXA, HTA.out, same_kidA, HKA.out, HEA.out] at HSAME
      obtain ⟨wS, hwS⟩ : ∃ z, wX.alloc (.cells #[nB.vv, nB.kv, nB.wv] 64) = z := ⟨_, rfl⟩
      go_upto_region 12 with fail
      rw [hwS] at q0 q1 q2 bc0 bc1 bc2 oc0 oc1 oc2 tc0 tc1 tc2 x0 x1 x2 y2 k0 k1 k2 d0 d1 d2 e0 e1 e2 r0 r1 C1 C2 C3 C4 R5 ht hkaok hkbok CA hoA CB hoB hT B6
      try rw [hwS]
      clear hwS
      have HALL2 : ∀ W, Below wS.heap.size wS W → (fun w' => w'.cell? ⟨b6, 0, none⟩ = some (.slice (some ⟨bv, ov, none⟩) 2 t.cv) ∧ w'.cell? ⟨b6, 1, none⟩ = some (.slice (some ⟨bk, ok, none⟩) 2 t.ck) ∧ w'.cell? ⟨b6, 2, none⟩ = some t.wv ∧ w'.cell? ⟨g2, 0, none⟩ = some (.int .i64 2) ∧ w'.cell? ⟨g2, 1, none⟩ = some (.int .i64 0) ∧ w'.cell? ⟨g2, 2, none⟩ = some (.string ⟨#[98]⟩) ∧ w'.cell? ⟨g3, 0, none⟩ = some (.int .i64 1) ∧ w'.cell? ⟨g3, 1, none⟩ = some (.int .i64 1) ∧ w'.cell? ⟨g3, 2, none⟩ = some (.string ⟨#[]⟩) ∧ w'.cell? ⟨g4, 0, none⟩ = some (.int .i64 1) ∧ w'.cell? ⟨g4, 1, none⟩ = some (.int .i64 2) ∧ w'.cell? ⟨g4, 2, none⟩ = some (.string ⟨#[]⟩) ∧ w'.cell? ⟨b7, 0, none⟩ = some nA.vv ∧ w'.cell? ⟨b7, 1, none⟩ = some nA.kv ∧ w'.cell? ⟨b7, 2, none⟩ = some nA.wv ∧ w'.cell? ⟨wX.heap.size, 2, none⟩ = some (.slice (some ⟨bs, os, none⟩) 1 nB.cw) ∧ w'.cell? ⟨bk, ok, none⟩ = some (.slice (some ⟨ba, oa, none⟩) 2 ka.cv) ∧ w'.cell? ⟨bk, ok + 1, none⟩ = some ka.kv ∧ w'.cell? ⟨bk, ok + 2, none⟩ = some ka.wv ∧ w'.cell? ⟨bv, ov + 3, none⟩ = some (.int .i64 2) ∧ w'.cell? ⟨bv, ov + 3 + 1, none⟩ = some (.int .i64 0) ∧ w'.cell? ⟨bv, ov + 3 + 2, none⟩ = some (.string ⟨#[98]⟩) ∧ w'.cell? ⟨ba, oa + 3, none⟩ = some (.int .i64 1) ∧ w'.cell? ⟨ba, oa + 3 + 1, none⟩ = some (.int .i64 2) ∧ w'.cell? ⟨ba, oa + 3 + 2, none⟩ = some (.string ⟨#[]⟩) ∧ w'.cell? ⟨bs, os, none⟩ = some (.int .i64 0) ∧ w'.cell? ⟨bs, os + 1, none⟩ = some (.int .i64 5)) W := fun W hW => ⟨cell_keep hW q0, cell_keep hW q1, cell_keep hW q2, cell_keep hW bc0, cell_keep hW bc1, cell_keep hW bc2, cell_keep hW oc0, cell_keep hW oc1, cell_keep hW oc2, cell_keep hW tc0, cell_keep hW tc1, cell_keep hW tc2, cell_keep hW x0, cell_keep hW x1, cell_keep hW x2, cell_keep hW y2, cell_keep hW k0, cell_keep hW k1, cell_keep hW k2, cell_keep hW d0, cell_keep hW d1, cell_keep hW d2, cell_keep hW e0, cell_keep hW e1, cell_keep hW e2, cell_keep hW r0, cell_keep hW r1⟩
      clear q0 q1 q2 k0 k1 k2 l0 l1 l2 ac0 ac1 ac2 bc0 bc1 bc2 oc0 oc1 oc2 tc0 tc1 tc2 d0 d1 d2 e0 e1 e2 x0 x1 x2 r0 r1 y2
      try simp only [List.append_eq, List.cons_append, List.nil_append]
      as_aux_lemma =>
        refine wp_region_noPanic ?_
        refine wp_region_late (fun w' => w'.cell? ⟨b6, 0, none⟩ = some (.slice (some ⟨bv, ov, none⟩) 2 t.cv) ∧ w'.cell? ⟨b6, 1, none⟩ = some (.slice (some ⟨bk, ok, none⟩) 2 t.ck) ∧ w'.cell? ⟨b6, 2, none⟩ = some t.wv ∧ w'.cell? ⟨g2, 0, none⟩ = some (.int .i64 2) ∧ w'.cell? ⟨g2, 1, none⟩ = some (.int .i64 0) ∧ w'.cell? ⟨g2, 2, none⟩ = some (.string ⟨#[98]⟩) ∧ w'.cell? ⟨g3, 0, none⟩ = some (.int .i64 1) ∧ w'.cell? ⟨g3, 1, none⟩ = some (.int .i64 1) ∧ w'.cell? ⟨g3, 2, none⟩ = some (.string ⟨#[]⟩) ∧ w'.cell? ⟨g4, 0, none⟩ = some (.int .i64 1) ∧ w'.cell? ⟨g4, 1, none⟩ = some (.int .i64 2) ∧ w'.cell? ⟨g4, 2, none⟩ = some (.string ⟨#[]⟩) ∧ w'.cell? ⟨b7, 0, none⟩ = some nA.vv ∧ w'.cell? ⟨b7, 1, none⟩ = some nA.kv ∧ w'.cell? ⟨b7, 2, none⟩ = some nA.wv ∧ w'.cell? ⟨wX.heap.size, 2, none⟩ = some (.slice (some ⟨bs, os, none⟩) 1 nB.cw) ∧ w'.cell? ⟨bk, ok, none⟩ = some (.slice (some ⟨ba, oa, none⟩) 2 ka.cv) ∧ w'.cell? ⟨bk, ok + 1, none⟩ = some ka.kv ∧ w'.cell? ⟨bk, ok + 2, none⟩ = some ka.wv ∧ w'.cell? ⟨bv, ov + 3, none⟩ = some (.int .i64 2) ∧ w'.cell? ⟨bv, ov + 3 + 1, none⟩ = some (.int .i64 0) ∧ w'.cell? ⟨bv, ov + 3 + 2, none⟩ = some (.string ⟨#[98]⟩) ∧ w'.cell? ⟨ba, oa + 3, none⟩ = some (.int .i64 1) ∧ w'.cell? ⟨ba, oa + 3 + 1, none⟩ = some (.int .i64 2) ∧ w'.cell? ⟨ba, oa + 3 + 2, none⟩ = some (.string ⟨#[]⟩) ∧ w'.cell? ⟨bs, os, none⟩ = some (.int .i64 0) ∧ w'.cell? ⟨bs, os + 1, none⟩ = some (.int .i64 5)) 111 (by kernel_rfl) (HALL2 _ (Below.refl _ _).drew) (fun _ => ?_)
        obtain ⟨wd, hwd⟩ : ∃ x : World, wS.drew = x := ⟨_, rfl⟩
        have bW : Below wS.heap.size wS wd := by rw [← hwd]; exact (Below.refl _ _).drew
        rw [hwd]
        clear hwd
        have hHeld := HALL2 _ bW
        refine any_take (by kernel_rfl) (i := 0) (oi := _) (v := ?_) rfl rfl (by kernel_rfl) (by kernel_rfl) (by kernel_rfl) (fun _ _ _ h => h) (Or.inl ⟨by rfl, ?_⟩) hHeld ?_
        rotate_left
        · intro w' hSw; try dsimp only at hSw
          go_simp
          try with_reducible rfl
        try simp only [puts, gets]
        refine any_take (by kernel_rfl) (i := 1) (oi := _) (v := ?_) rfl rfl (by kernel_rfl) (by kernel_rfl) (by kernel_rfl) (fun _ _ _ h => h) (Or.inl ⟨by rfl, ?_⟩) hHeld ?_
        rotate_left
        · intro w' hSw; try dsimp only at hSw
          go_simp
          try with_reducible rfl
        try simp only [puts, gets]
        refine any_take (by kernel_rfl) (i := 2) (oi := _) (v := ?_) rfl rfl (by kernel_rfl) (by kernel_rfl) (by kernel_rfl) (fun _ _ _ h => h) (Or.inl ⟨by rfl, ?_⟩) hHeld ?_
        rotate_left
        · intro w' hSw; try dsimp only at hSw
          go_simp
          try with_reducible rfl
        try simp only [puts, gets]
        refine any_take (by kernel_rfl) (i := 3) (oi := _) (v := ?_) rfl rfl (by kernel_rfl) (by kernel_rfl) (by kernel_rfl) (fun _ _ _ h => h) (Or.inl ⟨by rfl, ?_⟩) hHeld ?_
        rotate_left
        · intro w' hSw; try dsimp only at hSw
          go_simp
          try with_reducible rfl
        try simp only [puts, gets]
        refine any_take (by kernel_rfl) (i := 4) (oi := _) (v := ?_) rfl rfl (by kernel_rfl) (by kernel_rfl) (by kernel_rfl) (fun _ _ _ h => h) (Or.inl ⟨by rfl, ?_⟩) hHeld ?_
        rotate_left
        · intro w' hSw; try dsimp only at hSw
          go_simp
          try with_reducible rfl
        try simp only [puts, gets]
        refine any_take (by kernel_rfl) (i := 5) (oi := _) (v := ?_) rfl rfl (by kernel_rfl) (by kernel_rfl) (by kernel_rfl) (fun _ _ _ h => h) (Or.inl ⟨by rfl, ?_⟩) hHeld ?_
        rotate_left
        · intro w' hSw; try dsimp only at hSw
          go_simp
          try with_reducible rfl
        try simp only [puts, gets]
        refine any_take (by kernel_rfl) (i := 6) (oi := _) (v := ?_) rfl rfl (by kernel_rfl) (by kernel_rfl) (by kernel_rfl) (fun _ _ _ h => h) (Or.inl ⟨by rfl, ?_⟩) hHeld ?_
        rotate_left
        · intro w' hSw; try dsimp only at hSw
          go_simp
          try with_reducible rfl
        try simp only [puts, gets]
        refine any_take (by kernel_rfl) (i := 7) (oi := _) (v := ?_) rfl rfl (by kernel_rfl) (by kernel_rfl) (by kernel_rfl) (fun _ _ _ h => h) (Or.inl ⟨by rfl, ?_⟩) hHeld ?_
        rotate_left
        · intro w' hSw; try dsimp only at hSw
          go_simp
          try with_reducible rfl
        try simp only [puts, gets]
        refine any_take (by kernel_rfl) (i := 8) (oi := _) (v := ?_) rfl rfl (by kernel_rfl) (by kernel_rfl) (by kernel_rfl) (fun _ _ _ h => h) (Or.inl ⟨by rfl, ?_⟩) hHeld ?_
        rotate_left
        · intro w' hSw; try dsimp only at hSw
          go_simp
          try with_reducible rfl
        try simp only [puts, gets]
        refine any_take (by kernel_rfl) (i := 9) (oi := _) (v := ?_) rfl rfl (by kernel_rfl) (by kernel_rfl) (by kernel_rfl) (fun _ _ _ h => h) (Or.inl ⟨by rfl, ?_⟩) hHeld ?_
        rotate_left
        · intro w' hSw; try dsimp only at hSw
          go_simp
          try with_reducible rfl
        try simp only [puts, gets]
        refine any_take (by kernel_rfl) (i := 10) (oi := _) (v := ?_) rfl rfl (by kernel_rfl) (by kernel_rfl) (by kernel_rfl) (fun _ _ _ h => h) (Or.inl ⟨by rfl, ?_⟩) hHeld ?_
        rotate_left
        · intro w' hSw; try dsimp only at hSw
          go_simp
          try with_reducible rfl
        try simp only [puts, gets]
        refine any_take (by kernel_rfl) (i := 11) (oi := _) (v := ?_) rfl rfl (by kernel_rfl) (by kernel_rfl) (by kernel_rfl) (fun _ _ _ h => h) (Or.inl ⟨by rfl, ?_⟩) hHeld ?_
        rotate_left
        · intro w' hSw; try dsimp only at hSw
          go_simp
          try with_reducible rfl
        try simp only [puts, gets]
        refine any_take (by kernel_rfl) (i := 12) (oi := _) (v := ?_) rfl rfl (by kernel_rfl) (by kernel_rfl) (by kernel_rfl) (fun _ _ _ h => h) (Or.inl ⟨by rfl, ?_⟩) hHeld ?_
        rotate_left
        · intro w' hSw; try dsimp only at hSw
          go_simp
          try with_reducible rfl
        try simp only [puts, gets]
        refine any_take (by kernel_rfl) (i := 13) (oi := _) (v := ?_) rfl rfl (by kernel_rfl) (by kernel_rfl) (by kernel_rfl) (fun _ _ _ h => h) (Or.inl ⟨by rfl, ?_⟩) hHeld ?_
        rotate_left
        · intro w' hSw; try dsimp only at hSw
          go_simp
          try with_reducible rfl
        try simp only [puts, gets]
        refine any_take (by kernel_rfl) (i := 14) (oi := _) (v := ?_) rfl rfl (by kernel_rfl) (by kernel_rfl) (by kernel_rfl) (fun _ _ _ h => h) (Or.inl ⟨by rfl, ?_⟩) hHeld ?_
        rotate_left
        · intro w' hSw; try dsimp only at hSw
          go_simp
          try with_reducible rfl
        try simp only [puts, gets]
        refine any_take (by kernel_rfl) (i := 15) (oi := _) (v := ?_) rfl rfl (by kernel_rfl) (by kernel_rfl) (by kernel_rfl) (fun _ _ _ h => h) (Or.inl ⟨by rfl, ?_⟩) hHeld ?_
        rotate_left
        · intro w' hSw; try dsimp only at hSw
          go_simp
          try with_reducible rfl
        try simp only [puts, gets]
        refine any_take (by kernel_rfl) (i := 16) (oi := _) (v := ?_) rfl rfl (by kernel_rfl) (by kernel_rfl) (by kernel_rfl) (fun _ _ _ h => h) (Or.inl ⟨by rfl, ?_⟩) hHeld ?_
        rotate_left
        · intro w' hSw; try dsimp only at hSw
          go_simp
          try with_reducible rfl
        try simp only [puts, gets]
        as_aux_lemma =>
          refine any_take (by kernel_rfl) (i := 17) (oi := _) (v := ?_) rfl rfl (by kernel_rfl) (by kernel_rfl) (by kernel_rfl) (fun _ _ _ h => h) (Or.inl ⟨by rfl, ?_⟩) hHeld ?_
          rotate_left
          · intro w' hSw; try dsimp only at hSw
            go_simp
            try with_reducible rfl
          try simp only [puts, gets]
          refine any_take (by kernel_rfl) (i := 18) (oi := _) (v := ?_) rfl rfl (by kernel_rfl) (by kernel_rfl) (by kernel_rfl) (fun _ _ _ h => h) (Or.inl ⟨by rfl, ?_⟩) hHeld ?_
          rotate_left
          · intro w' hSw; try dsimp only at hSw
            go_simp
            try with_reducible rfl
          try simp only [puts, gets]
          refine any_take (by kernel_rfl) (i := 19) (oi := _) (v := ?_) rfl rfl (by kernel_rfl) (by kernel_rfl) (by kernel_rfl) (fun _ _ _ h => h) (Or.inl ⟨by rfl, ?_⟩) hHeld ?_
          rotate_left
          · intro w' hSw; try dsimp only at hSw
            go_simp
            try with_reducible rfl
          try simp only [puts, gets]
          refine any_take (by kernel_rfl) (i := 20) (oi := _) (v := ?_) rfl rfl (by kernel_rfl) (by kernel_rfl) (by kernel_rfl) (fun _ _ _ h => h) (Or.inl ⟨by rfl, ?_⟩) hHeld ?_
          rotate_left
          · intro w' hSw; try dsimp only at hSw
            go_simp
            try with_reducible rfl
          try simp only [puts, gets]
          refine any_take (by kernel_rfl) (i := 21) (oi := _) (v := ?_) rfl rfl (by kernel_rfl) (by kernel_rfl) (by kernel_rfl) (fun _ _ _ h => h) (Or.inl ⟨by rfl, ?_⟩) hHeld ?_
          rotate_left
          · intro w' hSw; try dsimp only at hSw
            go_simp
            try with_reducible rfl
          try simp only [puts, gets]
          refine any_take (by kernel_rfl) (i := 22) (oi := _) (v := ?_) rfl rfl (by kernel_rfl) (by kernel_rfl) (by kernel_rfl) (fun _ _ _ h => h) (Or.inl ⟨by rfl, ?_⟩) hHeld ?_
          rotate_left
          · intro w' hSw; try dsimp only at hSw
            go_simp
            try with_reducible rfl
          try simp only [puts, gets]
          refine any_take (by kernel_rfl) (i := 23) (oi := _) (v := ?_) rfl rfl (by kernel_rfl) (by kernel_rfl) (by kernel_rfl) (fun _ _ _ h => h) (Or.inl ⟨by rfl, ?_⟩) hHeld ?_
          rotate_left
          · intro w' hSw; try dsimp only at hSw
            go_simp
            try with_reducible rfl
          try simp only [puts, gets]
          refine any_take (by kernel_rfl) (i := 24) (oi := _) (v := ?_) rfl rfl (by kernel_rfl) (by kernel_rfl) (by kernel_rfl) (fun _ _ _ h => h) (Or.inl ⟨by rfl, ?_⟩) hHeld ?_
          rotate_left
          · intro w' hSw; try dsimp only at hSw
            go_simp
            try with_reducible rfl
          try simp only [puts, gets]
          refine any_take (by kernel_rfl) (i := 25) (oi := _) (v := ?_) rfl rfl (by kernel_rfl) (by kernel_rfl) (by kernel_rfl) (fun _ _ _ h => h) (Or.inl ⟨by rfl, ?_⟩) hHeld ?_
          rotate_left
          · intro w' hSw; try dsimp only at hSw
            go_simp
            try with_reducible rfl
          try simp only [puts, gets]
          refine any_next (i := 26) (by kernel_rfl) rfl rfl (fun K hK => ?_)
          go_simp
          go_at_call 56
          refine (HSAME _ (hoA.keep bW) (hkaok.keep bW)).mono ?_
          rintro e w_26 ⟨rfl, bC⟩
          replace bW := below_trans bW bC
          clear bC
          refine hK.out _ _ (HALL2 _ bW) (fun hHeld => ?_)
          clear hK K
          try simp only [puts, gets]
          refine any_take (by kernel_rfl) (i := 27) (oi := _) (v := ?_) rfl rfl (by kernel_rfl) (by kernel_rfl) (by kernel_rfl) (fun _ _ _ h => h) (Or.inl ⟨by rfl, ?_⟩) hHeld ?_
          rotate_left
          · intro w' hSw; try dsimp only at hSw
            go_simp
            try with_reducible rfl
          try simp only [puts, gets]
          refine any_take (by kernel_rfl) (i := 28) (oi := _) (v := ?_) rfl rfl (by kernel_rfl) (by kernel_rfl) (by kernel_rfl) (fun _ _ _ h => h) (Or.inl ⟨by rfl, ?_⟩) hHeld ?_
          rotate_left
          · intro w' hSw; try dsimp only at hSw
            go_simp
            try with_reducible rfl
          try simp only [puts, gets]
          refine any_take (by kernel_rfl) (i := 29) (oi := _) (v := ?_) rfl rfl (by kernel_rfl) (by kernel_rfl) (by kernel_rfl) (fun _ _ _ h => h) (Or.inl ⟨by rfl, ?_⟩) hHeld ?_
          rotate_left
          · intro w' hSw; try dsimp only at hSw
            go_simp
            try with_reducible rfl
          try simp only [puts, gets]
          refine any_take (by kernel_rfl) (i := 30) (oi := _) (v := ?_) rfl rfl (by kernel_rfl) (by kernel_rfl) (by kernel_rfl) (fun _ _ _ h => h) (Or.inl ⟨by rfl, ?_⟩) hHeld ?_
          rotate_left
          · intro w' hSw; try dsimp only at hSw
            go_simp
            try with_reducible rfl
          try simp only [puts, gets]
          refine any_take (by kernel_rfl) (i := 31) (oi := _) (v := ?_) rfl rfl (by kernel_rfl) (by kernel_rfl) (by kernel_rfl) (fun _ _ _ h => h) (Or.inl ⟨by rfl, ?_⟩) hHeld ?_
          rotate_left
          · intro w' hSw; try dsimp only at hSw
            go_simp
            try with_reducible rfl
          try simp only [puts, gets]
          refine any_take (by kernel_rfl) (i := 32) (oi := _) (v := ?_) rfl rfl (by kernel_rfl) (by kernel_rfl) (by kernel_rfl) (fun _ _ _ h => h) (Or.inl ⟨by rfl, ?_⟩) hHeld ?_
          rotate_left
          · intro w' hSw; try dsimp only at hSw
            go_simp
            try with_reducible rfl
          try simp only [puts, gets]
          refine any_take (by kernel_rfl) (i := 33) (oi := _) (v := ?_) rfl rfl (by kernel_rfl) (by kernel_rfl) (by kernel_rfl) (fun _ _ _ h => h) (Or.inl ⟨by rfl, ?_⟩) hHeld ?_
          rotate_left
          · intro w' hSw; try dsimp only at hSw
            go_simp
            try with_reducible rfl
          try simp only [puts, gets]
          refine any_take (by kernel_rfl) (i := 34) (oi := _) (v := ?_) rfl rfl (by kernel_rfl) (by kernel_rfl) (by kernel_rfl) (fun _ _ _ h => h) (Or.inl ⟨by rfl, ?_⟩) hHeld ?_
          rotate_left
          · intro w' hSw; try dsimp only at hSw
            go_simp
            try with_reducible rfl
          try simp only [puts, gets]
          as_aux_lemma =>
            refine any_take (by kernel_rfl) (i := 35) (oi := _) (v := ?_) rfl rfl (by kernel_rfl) (by kernel_rfl) (by kernel_rfl) (fun _ _ _ h => h) (Or.inl ⟨by rfl, ?_⟩) hHeld ?_
            rotate_left
            · intro w' hSw; try dsimp only at hSw
              go_simp
              try with_reducible rfl
            try simp only [puts, gets]
            refine any_take (by kernel_rfl) (i := 36) (oi := _) (v := ?_) rfl rfl (by kernel_rfl) (by kernel_rfl) (by kernel_rfl) (fun _ _ _ h => h) (Or.inl ⟨by rfl, ?_⟩) hHeld ?_
            rotate_left
            · intro w' hSw; try dsimp only at hSw
              go_simp
              try with_reducible rfl
            try simp only [puts, gets]
            refine any_take (by kernel_rfl) (i := 37) (oi := _) (v := ?_) rfl rfl (by kernel_rfl) (by kernel_rfl) (by kernel_rfl) (fun _ _ _ h => h) (Or.inl ⟨by rfl, ?_⟩) hHeld ?_
            rotate_left
            · intro w' hSw; try dsimp only at hSw
              go_simp
              try with_reducible rfl
            try simp only [puts, gets]
            refine any_take (by kernel_rfl) (i := 38) (oi := _) (v := ?_) rfl rfl (by kernel_rfl) (by kernel_rfl) (by kernel_rfl) (fun _ _ _ h => h) (Or.inl ⟨by rfl, ?_⟩) hHeld ?_
            rotate_left
            · intro w' hSw; try dsimp only at hSw
              go_simp
              try with_reducible rfl
            try simp only [puts, gets]
            refine any_take (by kernel_rfl) (i := 39) (oi := _) (v := ?_) rfl rfl (by kernel_rfl) (by kernel_rfl) (by kernel_rfl) (fun _ _ _ h => h) (Or.inl ⟨by rfl, ?_⟩) hHeld ?_
            rotate_left
            · intro w' hSw; try dsimp only at hSw
              go_simp
              try with_reducible rfl
            try simp only [puts, gets]
            refine any_take (by kernel_rfl) (i := 40) (oi := _) (v := ?_) rfl rfl (by kernel_rfl) (by kernel_rfl) (by kernel_rfl) (fun _ _ _ h => h) (Or.inl ⟨by rfl, ?_⟩) hHeld ?_
            rotate_left
            · intro w' hSw; try dsimp only at hSw
              go_simp
              try with_reducible rfl
            try simp only [puts, gets]
            refine any_take (by kernel_rfl) (i := 41) (oi := _) (v := ?_) rfl rfl (by kernel_rfl) (by kernel_rfl) (by kernel_rfl) (fun _ _ _ h => h) (Or.inl ⟨by rfl, ?_⟩) hHeld ?_
            rotate_left
            · intro w' hSw; try dsimp only at hSw
              go_simp
              try with_reducible rfl
            try simp only [puts, gets]
            refine any_take (by kernel_rfl) (i := 42) (oi := _) (v := ?_) rfl rfl (by kernel_rfl) (by kernel_rfl) (by kernel_rfl) (fun _ _ _ h => h) (Or.inl ⟨by rfl, ?_⟩) hHeld ?_
            rotate_left
            · intro w' hSw; try dsimp only at hSw
              go_simp
              try with_reducible rfl
            try simp only [puts, gets]
            refine any_take (by kernel_rfl) (i := 43) (oi := _) (v := ?_) rfl rfl (by kernel_rfl) (by kernel_rfl) (by kernel_rfl) (fun _ _ _ h => h) (Or.inl ⟨by rfl, ?_⟩) hHeld ?_
            rotate_left
            · intro w' hSw; try dsimp only at hSw
              go_simp
              try with_reducible rfl
            try simp only [puts, gets]
            refine any_take (by kernel_rfl) (i := 44) (oi := _) (v := ?_) rfl rfl (by kernel_rfl) (by kernel_rfl) (by kernel_rfl) (fun _ _ _ h => h) (Or.inl ⟨by rfl, ?_⟩) hHeld ?_
            rotate_left
            · intro w' hSw; try dsimp only at hSw
              go_simp
              try with_reducible rfl
            try simp only [puts, gets]
            refine any_take (by kernel_rfl) (i := 45) (oi := _) (v := ?_) rfl rfl (by kernel_rfl) (by kernel_rfl) (by kernel_rfl) (fun _ _ _ h => h) (Or.inl ⟨by rfl, ?_⟩) hHeld ?_
            rotate_left
            · intro w' hSw; try dsimp only at hSw
              go_simp
              try with_reducible rfl
            try simp only [puts, gets]
            refine any_next (i := 46) (by kernel_rfl) rfl rfl (fun K hK => ?_)
            go_simp
            go_at_call 100
            refine (five_any _).mono ?_
            rintro e w_46 ⟨rfl, hY⟩
            have bC : Below w_26.heap.size w_26 w_46 := by rw [hY]; exact below_new _ _
            have CF : Cel w_46 w_26.heap.size 86 [.int .i64 0, .int .i64 5] := by rw [hY]; exact Cel.new w_26 86 [.int .i64 0, .int .i64 5]
            have cf0 := CF.at_ (j := 0) rfl
            have cf1 := CF.at_ (j := 1) rfl
            clear CF hY
            replace bW := below_trans bW bC
            clear bC
            refine hK.out _ _ (HALL2 _ bW) (fun hHeld => ?_)
            clear hK K
            try simp only [puts, gets]
            refine any_take (by kernel_rfl) (i := 47) (oi := _) (v := ?_) rfl rfl (by kernel_rfl) (by kernel_rfl) (by kernel_rfl) (fun _ _ _ h => h) (Or.inl ⟨by rfl, ?_⟩) hHeld ?_
            rotate_left
            · intro w' hSw; try dsimp only at hSw
              go_simp
              try with_reducible rfl
            try simp only [puts, gets]
            refine any_next (i := 48) (by kernel_rfl) rfl rfl (fun K hK => ?_)
            go_simp
            refine hK.out _ _ (HALL2 _ bW) (fun hHeld => ?_)
            clear hK K
            try simp only [puts, gets]
            clear cf0 cf1
            refine any_take (by kernel_rfl) (i := 49) (oi := _) (v := ?_) rfl rfl (by kernel_rfl) (by kernel_rfl) (by kernel_rfl) (fun _ _ _ h => h) (Or.inl ⟨by rfl, ?_⟩) hHeld ?_
            rotate_left
            · intro w' hSw; try dsimp only at hSw
              go_simp
              try with_reducible rfl
            try simp only [puts, gets]
            refine any_take (by kernel_rfl) (i := 50) (oi := _) (v := ?_) rfl rfl (by kernel_rfl) (by kernel_rfl) (by kernel_rfl) (fun _ _ _ h => h) (Or.inl ⟨by rfl, ?_⟩) hHeld ?_
            rotate_left
            · intro w' hSw; try dsimp only at hSw
              go_simp
              try with_reducible rfl
            try simp only [puts, gets]
            refine any_take (by kernel_rfl) (i := 51) (oi := _) (v := ?_) rfl rfl (by kernel_rfl) (by kernel_rfl) (by kernel_rfl) (fun _ _ _ h => h) (Or.inl ⟨by rfl, ?_⟩) hHeld ?_
            rotate_left
            · intro w' hSw; try dsimp only at hSw
              go_simp
              try with_reducible rfl
            try simp only [puts, gets]
            refine any_take (by kernel_rfl) (i := 52) (oi := _) (v := ?_) rfl rfl (by kernel_rfl) (by kernel_rfl) (by kernel_rfl) (fun _ _ _ h => h) (Or.inl ⟨by rfl, ?_⟩) hHeld ?_
            rotate_left
            · intro w' hSw; try dsimp only at hSw
              go_simp
              try with_reducible rfl
            try simp only [puts, gets]
            as_aux_lemma =>
              refine any_take (by kernel_rfl) (i := 53) (oi := _) (v := ?_) rfl rfl (by kernel_rfl) (by kernel_rfl) (by kernel_rfl) (fun _ _ _ h => h) (Or.inl ⟨by rfl, ?_⟩) hHeld ?_
              rotate_left
              · intro w' hSw; try dsimp only at hSw
                go_simp
                try with_reducible rfl
              try simp only [puts, gets]
              have hC := fun W (h1 : TrOk W t) => seekInc_any t vlB W h1 (by rw [HVS.out]; decide) (by rw [HVS.out]; exact inc_T)
              unfold trV valV strV at hC
              rw [HV.out, HK.out, HE.out, HEV.out, HVS.out, seek_b] at hC
              refine any_next (i := 54) (by kernel_rfl) rfl rfl (fun K hK => ?_)
              go_simp
              go_at_call 58
              refine (hC _ (ht.keep bW)).mono ?_
              rintro e w_54 ⟨rfl, bC⟩
              replace bW := below_trans bW bC
              clear bC
              refine hK.out _ _ (HALL2 _ bW) (fun hHeld => ?_)
              clear hK K
              try simp only [puts, gets]
              clear hC
              refine any_take (by kernel_rfl) (i := 55) (oi := _) (v := ?_) rfl rfl (by kernel_rfl) (by kernel_rfl) (by kernel_rfl) (fun _ _ _ h => h) (Or.inl ⟨by rfl, ?_⟩) hHeld ?_
              rotate_left
              · intro w' hSw; try dsimp only at hSw
                go_simp
                try with_reducible rfl
              try simp only [puts, gets]
              refine any_take (by kernel_rfl) (i := 56) (oi := _) (v := ?_) rfl rfl (by kernel_rfl) (by kernel_rfl) (by kernel_rfl) (fun _ _ _ h => h) (Or.inl ⟨by rfl, ?_⟩) hHeld ?_
              rotate_left
              · intro w' hSw; try dsimp only at hSw
                go_simp
                try with_reducible rfl
              try simp only [puts, gets]
              refine any_take (by kernel_rfl) (i := 57) (oi := _) (v := ?_) rfl rfl (by kernel_rfl) (by kernel_rfl) (by kernel_rfl) (fun _ _ _ h => h) (Or.inl ⟨by rfl, ?_⟩) hHeld ?_
              rotate_left
              · intro w' hSw; try dsimp only at hSw
                go_simp
                try with_reducible rfl
              try simp only [puts, gets]
              refine any_take (by kernel_rfl) (i := 58) (oi := _) (v := ?_) rfl rfl (by kernel_rfl) (by kernel_rfl) (by kernel_rfl) (fun _ _ _ h => h) (Or.inl ⟨by rfl, ?_⟩) hHeld ?_
              rotate_left
              · intro w' hSw; try dsimp only at hSw
                go_simp
                try with_reducible rfl
              try simp only [puts, gets]
              refine any_next (i := 59) (by kernel_rfl) rfl rfl (fun K hK => ?_)
              go_simp
              go_at_call 99
              refine (Sym_any [99] _).mono ?_
              rintro e w_59 ⟨rfl, bC⟩
              unfold strV
              replace bW := below_trans bW bC
              clear bC
              refine hK.out _ _ (HALL2 _ bW) (fun hHeld => ?_)
              clear hK K
              try simp only [puts, gets]
              have hC := fun W (h1 : TrOk W t) => seekInc_any t vlC W h1 (by rw [HVS.out]; decide) (by rw [HVS.out]; exact inc_T)
              unfold trV valV strV at hC
              rw [HV.out, HK.out, HE.out, HEV.out, HVS.out, seek_c] at hC
              refine any_next (i := 60) (by kernel_rfl) rfl rfl (fun K hK => ?_)
              go_simp
              go_at_call 58
              refine (hC _ (ht.keep bW)).mono ?_
              rintro e w_60 ⟨rfl, bC⟩
              replace bW := below_trans bW bC
              clear bC
              refine hK.out _ _ (HALL2 _ bW) (fun hHeld => ?_)
              clear hK K
              try simp only [puts, gets]
              clear hC
              obtain ⟨hNv, -, -⟩ := tr_parts HXA
              have HNV := Lib.hid hNv
              clear hNv
              have hC := fun W (h1 : TrOk W nA) => seekInc_any nA (intVl 2) W h1 (by rw [HNV.out]; decide) (by rw [HNV.out]; exact inc_A)
              unfold trV valV strV at hC
              rw [show seekN nA.vs (intVl 2) = 1 from by rw [HNV.out]; exact seek_2] at hC
              refine any_take (by kernel_rfl) (i := 61) (oi := _) (v := ?_) rfl rfl (by kernel_rfl) (by kernel_rfl) (by kernel_rfl) (fun _ _ _ h => h) (Or.inl ⟨by rfl, ?_⟩) hHeld ?_
              rotate_left
              · intro w' hSw; try dsimp only at hSw
                go_simp
                try with_reducible rfl
              try simp only [puts, gets]
              refine any_take (by kernel_rfl) (i := 62) (oi := _) (v := ?_) rfl rfl (by kernel_rfl) (by kernel_rfl) (by kernel_rfl) (fun _ _ _ h => h) (Or.inl ⟨by rfl, ?_⟩) hHeld ?_
              rotate_left
              · intro w' hSw; try dsimp only at hSw
                go_simp
                try with_reducible rfl
              try simp only [puts, gets]
              refine any_take (by kernel_rfl) (i := 63) (oi := _) (v := ?_) rfl rfl (by kernel_rfl) (by kernel_rfl) (by kernel_rfl) (fun _ _ _ h => h) (Or.inl ⟨by rfl, ?_⟩) hHeld ?_
              rotate_left
              · intro w' hSw; try dsimp only at hSw
                go_simp
                try with_reducible rfl
              try simp only [puts, gets]
              refine any_take (by kernel_rfl) (i := 64) (oi := _) (v := ?_) rfl rfl (by kernel_rfl) (by kernel_rfl) (by kernel_rfl) (fun _ _ _ h => h) (Or.inl ⟨by rfl, ?_⟩) hHeld ?_
              rotate_left
              · intro w' hSw; try dsimp only at hSw
                go_simp
                try with_reducible rfl
              try simp only [puts, gets]
              refine any_take (by kernel_rfl) (i := 65) (oi := _) (v := ?_) rfl rfl (by kernel_rfl) (by kernel_rfl) (by kernel_rfl) (fun _ _ _ h => h) (Or.inl ⟨by rfl, ?_⟩) hHeld ?_
              rotate_left
              · intro w' hSw; try dsimp only at hSw
                go_simp
                try with_reducible rfl
              try simp only [puts, gets]
              refine any_next (i := 66) (by kernel_rfl) rfl rfl (fun K hK => ?_)
              go_simp
              go_at_call 58
              refine (hC _ (hoA.keep bW)).mono ?_
              rintro e w_66 ⟨rfl, bC⟩
              replace bW := below_trans bW bC
              clear bC
              refine hK.out _ _ (HALL2 _ bW) (fun hHeld => ?_)
              clear hK K
              try simp only [puts, gets]
              clear hC
              refine any_take (by kernel_rfl) (i := 67) (oi := _) (v := ?_) rfl rfl (by kernel_rfl) (by kernel_rfl) (by kernel_rfl) (fun _ _ _ h => h) (Or.inl ⟨by rfl, ?_⟩) hHeld ?_
              rotate_left
              · intro w' hSw; try dsimp only at hSw
                go_simp
                try with_reducible rfl
              try simp only [puts, gets]
              refine any_take (by kernel_rfl) (i := 68) (oi := _) (v := ?_) rfl rfl (by kernel_rfl) (by kernel_rfl) (by kernel_rfl) (fun _ _ _ h => h) (Or.inl ⟨by rfl, ?_⟩) hHeld ?_
              rotate_left
              · intro w' hSw; try dsimp only at hSw
                go_simp
                try with_reducible rfl
              try simp only [puts, gets]
              refine any_take (by kernel_rfl) (i := 69) (oi := _) (v := ?_) rfl rfl (by kernel_rfl) (by kernel_rfl) (by kernel_rfl) (fun _ _ _ h => h) (Or.inl ⟨by rfl, ?_⟩) hHeld ?_
              rotate_left
              · intro w' hSw; try dsimp only at hSw
                go_simp
                try with_reducible rfl
              try simp only [puts, gets]
              refine any_take (by kernel_rfl) (i := 70) (oi := _) (v := ?_) rfl rfl (by kernel_rfl) (by kernel_rfl) (by kernel_rfl) (fun _ _ _ h => h) (Or.inl ⟨by rfl, ?_⟩) hHeld ?_
              rotate_left
              · intro w' hSw; try dsimp only at hSw
                go_simp
                try with_reducible rfl
              try simp only [puts, gets]
              as_aux_lemma =>
                refine any_take (by kernel_rfl) (i := 71) (oi := _) (v := ?_) rfl rfl (by kernel_rfl) (by kernel_rfl) (by kernel_rfl) (fun _ _ _ h => h) (Or.inl ⟨by rfl, ?_⟩) hHeld ?_
                rotate_left
                · intro w' hSw; try dsimp only at hSw
                  go_simp
                  try with_reducible rfl
                try simp only [puts, gets]
                refine any_take (by kernel_rfl) (i := 73) (oi := _) (v := ?_) rfl rfl (by kernel_rfl) (by kernel_rfl) (by kernel_rfl) (fun _ _ _ h => h) (Or.inl ⟨by rfl, ?_⟩) hHeld ?_
                rotate_left
                · intro w' hSw; try dsimp only at hSw
                  go_simp
                  try with_reducible rfl
                try simp only [puts, gets]
                have hC := fun W (h1 : IsTries W t.kv t.ks) => Common_any t.kv t.ks W h1 (by rw [HKS.out]; intro z hz; rcases List.mem_cons.1 hz with rfl | hz; rw [(tr_parts HTA.out).1]; decide; rw [List.mem_singleton.1 hz, (tr_parts HTB.out).1]; decide) (by rw [HKS.out]; intro z hz; rcases List.mem_cons.1 hz with rfl | hz; rw [(tr_parts HTA.out).1]; exact inc_A; rw [List.mem_singleton.1 hz, (tr_parts HTB.out).1]; exact inc_B) (by rw [HKS.out]; simp)
                rw [HKS.out, List.map_cons, List.map_cons, List.map_nil, HTA.out, HTB.out, ← HKS.out, HK.out, HE.out] at hC
                as_aux_lemma =>
                  refine any_two (i := 72) (j := 74) (by kernel_rfl) rfl rfl rfl rfl (fun K hK => ?_) (fun K hK => ?_)
                  · as_aux_lemma =>
                      go_simp
                      go_at_call 65
                      refine (hC _ (show IsTries _ (.slice (some ⟨bk, ok, none⟩) 2 t.ck) t.ks from by have := (ht.keep bW).tries; rwa [HK.out, HE.out] at this)).mono ?_
                      rintro e w_72 ⟨uC, LC, rfl, hIC, HLC, bC⟩
                      replace bW := below_trans bW bC
                      clear bC
                      refine hK.out _ _ (HALL2 _ bW) (fun hHeld => ?_)
                      clear hK K hC
                      try simp only [puts, gets]
                      have nX := below_new w_72 (.cells #[.int .i64 1, .int .i64 1, .string ⟨#[]⟩] 58)
                      have hL1 : IsVals (w_72.alloc (.cells #[.int .i64 1, .int .i64 1, .string ⟨#[]⟩] 58)) (.slice (some ⟨w_72.heap.size, 0, none⟩) 1 1) [intVl 1] := IsRows.lit w_72 [intVl 1] encsV (by decide)
                      refine any_next (i := 74) (by kernel_rfl) rfl rfl (fun K hK => ?_)
                      refine step_lit fitsV (by kernel_rfl) _ rfl _ rfl _ #[.int .i64 1, .int .i64 1, .string ⟨#[]⟩] base58_1 (by decide) (by decide) [(0, .agg #[.int .i64 1, .int .i64 1, .string ⟨#[]⟩])] (by kernel_rfl) (by kernel_rfl) ?_
                      refine hK.out _ _ (HALL2 _ (bW.trans (nX.mono bW.size))) (fun hHeld => ?_)
                      clear hK K
                      try simp only [puts, gets]
                      replace hIC := hIC.keep nX
                      replace bW := bW.trans (nX.mono bW.size)
                      clear nX
                      have HLC2 := Lib.hid (show decide (LC = [intVl 1]) = true from decide_eq_true (by rw [HLC.out]; exact com_th))
                      refine any_next (i := 75) (by kernel_rfl) rfl rfl (fun K hK => ?_)
                      go_simp
                      go_at_call 64
                      refine (SameValues_any _ _ LC [intVl 1] _ hIC hL1).mono ?_
                      rintro e w_75 ⟨rfl, bC⟩
                      rw [HLC2.out]
                      replace bW := below_trans bW bC
                      clear bC
                      refine hK.out _ _ (HALL2 _ bW) (fun hHeld => ?_)
                      clear hK K
                      try simp only [puts, gets]
                      clear hIC hL1
                      have hC := fun W h1 h2 => TValid_any 2 t W h1 h2 HLI.out
                      rw [TV.out, HTT.out, valid_2] at hC
                      refine any_take (by kernel_rfl) (i := 76) (oi := _) (v := ?_) rfl rfl (by kernel_rfl) (by kernel_rfl) (by kernel_rfl) (fun _ _ _ h => h) (Or.inl ⟨by rfl, ?_⟩) hHeld ?_
                      rotate_left
                      · intro w' hSw; try dsimp only at hSw
                        go_simp
                        try with_reducible rfl
                      try simp only [puts, gets]
                      refine any_take (by kernel_rfl) (i := 77) (oi := _) (v := ?_) rfl rfl (by kernel_rfl) (by kernel_rfl) (by kernel_rfl) (fun _ _ _ h => h) (Or.inl ⟨by rfl, ?_⟩) hHeld ?_
                      rotate_left
                      · intro w' hSw; try dsimp only at hSw
                        go_simp
                        try with_reducible rfl
                      try simp only [puts, gets]
                      refine any_take (by kernel_rfl) (i := 78) (oi := _) (v := ?_) rfl rfl (by kernel_rfl) (by kernel_rfl) (by kernel_rfl) (fun _ _ _ h => h) (Or.inl ⟨by rfl, ?_⟩) hHeld ?_
                      rotate_left
                      · intro w' hSw; try dsimp only at hSw
                        go_simp
                        try with_reducible rfl
                      try simp only [puts, gets]
                      refine any_next (i := 79) (by kernel_rfl) rfl rfl (fun K hK => ?_)
                      go_simp
                      go_at_call 60
                      refine (hC _ (hT.keep bW) (ht.keep bW)).mono ?_
                      rintro e w_79 ⟨rfl, bC⟩
                      replace bW := below_trans bW bC
                      clear bC
                      refine hK.out _ _ (HALL2 _ bW) (fun hHeld => ?_)
                      clear hK K
                      try simp only [puts, gets]
                      clear hC
                      have hC := fun W h1 h2 => TValid_any 1 t W h1 h2 HLI.out
                      rw [TV.out, HTT.out, valid_1] at hC
                      refine any_take (by kernel_rfl) (i := 80) (oi := _) (v := ?_) rfl rfl (by kernel_rfl) (by kernel_rfl) (by kernel_rfl) (fun _ _ _ h => h) (Or.inl ⟨by rfl, ?_⟩) hHeld ?_
                      rotate_left
                      · intro w' hSw; try dsimp only at hSw
                        go_simp
                        try with_reducible rfl
                      try simp only [puts, gets]
                      refine any_take (by kernel_rfl) (i := 81) (oi := _) (v := ?_) rfl rfl (by kernel_rfl) (by kernel_rfl) (by kernel_rfl) (fun _ _ _ h => h) (Or.inl ⟨by rfl, ?_⟩) hHeld ?_
                      rotate_left
                      · intro w' hSw; try dsimp only at hSw
                        go_simp
                        try with_reducible rfl
                      try simp only [puts, gets]
                      refine any_take (by kernel_rfl) (i := 82) (oi := _) (v := ?_) rfl rfl (by kernel_rfl) (by kernel_rfl) (by kernel_rfl) (fun _ _ _ h => h) (Or.inl ⟨by rfl, ?_⟩) hHeld ?_
                      rotate_left
                      · intro w' hSw; try dsimp only at hSw
                        go_simp
                        try with_reducible rfl
                      try simp only [puts, gets]
                      refine any_next (i := 83) (by kernel_rfl) rfl rfl (fun K hK => ?_)
                      go_simp
                      go_at_call 60
                      refine (hC _ (hT.keep bW) (ht.keep bW)).mono ?_
                      rintro e w_83 ⟨rfl, bC⟩
                      replace bW := below_trans bW bC
                      clear bC
                      refine hK.out _ _ (HALL2 _ bW) (fun hHeld => ?_)
                      clear hK K
                      try simp only [puts, gets]
                      clear hC
                      have hC := fun W h1 h2 => TValid_any 3 t W h1 h2 HLI.out
                      rw [TV.out, HTT.out, valid_3] at hC
                      refine any_take (by kernel_rfl) (i := 84) (oi := _) (v := ?_) rfl rfl (by kernel_rfl) (by kernel_rfl) (by kernel_rfl) (fun _ _ _ h => h) (Or.inl ⟨by rfl, ?_⟩) hHeld ?_
                      rotate_left
                      · intro w' hSw; try dsimp only at hSw
                        go_simp
                        try with_reducible rfl
                      try simp only [puts, gets]
                      refine any_take (by kernel_rfl) (i := 85) (oi := _) (v := ?_) rfl rfl (by kernel_rfl) (by kernel_rfl) (by kernel_rfl) (fun _ _ _ h => h) (Or.inl ⟨by rfl, ?_⟩) hHeld ?_
                      rotate_left
                      · intro w' hSw; try dsimp only at hSw
                        go_simp
                        try with_reducible rfl
                      try simp only [puts, gets]
                      refine any_take (by kernel_rfl) (i := 86) (oi := _) (v := ?_) rfl rfl (by kernel_rfl) (by kernel_rfl) (by kernel_rfl) (fun _ _ _ h => h) (Or.inl ⟨by rfl, ?_⟩) hHeld ?_
                      rotate_left
                      · intro w' hSw; try dsimp only at hSw
                        go_simp
                        try with_reducible rfl
                      try simp only [puts, gets]
                      refine any_take (by kernel_rfl) (i := 87) (oi := _) (v := ?_) rfl rfl (by kernel_rfl) (by kernel_rfl) (by kernel_rfl) (fun _ _ _ h => h) (Or.inl ⟨by rfl, ?_⟩) hHeld ?_
                      rotate_left
                      · intro w' hSw; try dsimp only at hSw
                        go_simp
                        try with_reducible rfl
                      try simp only [puts, gets]
                      refine any_next (i := 88) (by kernel_rfl) rfl rfl (fun K hK => ?_)
                      go_simp
                      go_at_call 60
                      refine (hC _ (hT.keep bW) (ht.keep bW)).mono ?_
                      rintro e w_88 ⟨rfl, bC⟩
                      replace bW := below_trans bW bC
                      clear bC
                      refine hK.out _ _ (HALL2 _ bW) (fun hHeld => ?_)
                      clear hK K
                      try simp only [puts, gets]
                      clear hC
                      have hC := fun W h1 h2 => TRows_any 2 t W h1 h2 HLI.out (by rw [HTT.out, rows_th]; decide)
                      rw [TV.out, HTT.out, rows_th] at hC
                      refine any_take (by kernel_rfl) (i := 89) (oi := _) (v := ?_) rfl rfl (by kernel_rfl) (by kernel_rfl) (by kernel_rfl) (fun _ _ _ h => h) (Or.inl ⟨by rfl, ?_⟩) hHeld ?_
                      rotate_left
                      · intro w' hSw; try dsimp only at hSw
                        go_simp
                        try with_reducible rfl
                      try simp only [puts, gets]
                      refine any_take (by kernel_rfl) (i := 90) (oi := _) (v := ?_) rfl rfl (by kernel_rfl) (by kernel_rfl) (by kernel_rfl) (fun _ _ _ h => h) (Or.inl ⟨by rfl, ?_⟩) hHeld ?_
                      rotate_left
                      · intro w' hSw; try dsimp only at hSw
                        go_simp
                        try with_reducible rfl
                      try simp only [puts, gets]
                      as_aux_lemma =>
                        refine any_take (by kernel_rfl) (i := 91) (oi := _) (v := ?_) rfl rfl (by kernel_rfl) (by kernel_rfl) (by kernel_rfl) (fun _ _ _ h => h) (Or.inl ⟨by rfl, ?_⟩) hHeld ?_
                        rotate_left
                        · intro w' hSw; try dsimp only at hSw
                          go_simp
                          try with_reducible rfl
                        try simp only [puts, gets]
                        refine any_take (by kernel_rfl) (i := 92) (oi := _) (v := ?_) rfl rfl (by kernel_rfl) (by kernel_rfl) (by kernel_rfl) (fun _ _ _ h => h) (Or.inl ⟨by rfl, ?_⟩) hHeld ?_
                        rotate_left
                        · intro w' hSw; try dsimp only at hSw
                          go_simp
                          try with_reducible rfl
                        try simp only [puts, gets]
                        refine any_take (by kernel_rfl) (i := 94) (oi := _) (v := ?_) rfl rfl (by kernel_rfl) (by kernel_rfl) (by kernel_rfl) (fun _ _ _ h => h) (Or.inl ⟨by rfl, ?_⟩) hHeld ?_
                        rotate_left
                        · intro w' hSw; try dsimp only at hSw
                          go_simp
                          try with_reducible rfl
                        try simp only [puts, gets]
                        refine any_next (i := 93) (by kernel_rfl) rfl rfl (fun K hK => ?_)
                        go_simp
                        go_at_call 62
                        refine (hC _ (hT.keep bW) (ht.keep bW)).mono ?_
                        rintro e w_93 ⟨uR, LR, rfl, HR5, HLR, bC⟩
                        have hRel := HR5.rel (by have := congrArg List.length HLR.out; rw [rows_length] at this; rw [this]; decide)
                        clear HR5
                        replace bW := below_trans bW bC
                        clear bC
                        refine hK.out _ _ (HALL2 _ bW) (fun hHeld => ?_)
                        clear hK K
                        try simp only [puts, gets]
                        clear hC
                        refine any_next (i := 95) (by kernel_rfl) rfl rfl (fun K hK => ?_)
                        go_simp
                        go_at_call 24
                        refine (rSameR_any _ _ LR rs _ hRel (R5.keep bW)).mono ?_
                        rintro e w_95 ⟨rfl, bC⟩
                        rw [decide_eq_true (HLR.out.trans HRS.out.symm)]
                        replace bW := below_trans bW bC
                        clear bC
                        refine hK.out _ _ (HALL2 _ bW) (fun hHeld => ?_)
                        clear hK K
                        try simp only [puts, gets]
                        clear hRel
                        refine any_take (by kernel_rfl) (i := 96) (oi := _) (v := ?_) rfl rfl (by kernel_rfl) (by kernel_rfl) (by kernel_rfl) (fun _ _ _ h => h) (Or.inl ⟨by rfl, ?_⟩) hHeld ?_
                        rotate_left
                        · intro w' hSw; try dsimp only at hSw
                          go_simp
                          try with_reducible rfl
                        try simp only [puts, gets]
                        refine any_take (by kernel_rfl) (i := 97) (oi := _) (v := ?_) rfl rfl (by kernel_rfl) (by kernel_rfl) (by kernel_rfl) (fun _ _ _ h => h) (Or.inl ⟨by rfl, ?_⟩) hHeld ?_
                        rotate_left
                        · intro w' hSw; try dsimp only at hSw
                          go_simp
                          try with_reducible rfl
                        try simp only [puts, gets]
                        refine any_take (by kernel_rfl) (i := 98) (oi := _) (v := ?_) rfl rfl (by kernel_rfl) (by kernel_rfl) (by kernel_rfl) (fun _ _ _ h => h) (Or.inl ⟨by rfl, ?_⟩) hHeld ?_
                        rotate_left
                        · intro w' hSw; try dsimp only at hSw
                          go_simp
                          try with_reducible rfl
                        try simp only [puts, gets]
                        refine any_next (i := 99) (by kernel_rfl) rfl rfl (fun K hK => ?_)
                        go_simp
                        go_at_call 57
                        refine (TBuild_any _ 1 rs _ (hT.keep bW) (R5.keep bW) HSM.out).mono ?_
                        rintro e w_99 ⟨t2, rfl, -, HT2, bC⟩
                        have hv2 : t2.vs.length = 0 := by have h := built_one HRS.out HT2.out; rw [TR.tr_vs] at h; rw [h]; rfl
                        unfold trV
                        have hfd : ∀ w : World, (Instr.field 64 (.agg #[t2.vv, t2.kv, t2.wv]) 0).run Tryd.prog w = .ok (.slice t2.pv 0 t2.cv) w := fun w => (show _ = Result.ok t2.vv w from by kernel_rfl).trans (by show Result.ok (Value.slice t2.pv t2.vs.length t2.cv) w = _; rw [hv2])
                        replace bW := below_trans bW bC
                        clear bC
                        refine hK.out _ _ (HALL2 _ bW) (fun hHeld => ?_)
                        clear hK K
                        try simp only [puts, gets]
                        refine any_take (by kernel_rfl) (i := 100) (oi := _) (v := ?_) rfl rfl (by kernel_rfl) (by kernel_rfl) (by kernel_rfl) (fun _ _ _ h => h) (Or.inl ⟨by rfl, ?_⟩) hHeld ?_
                        rotate_left
                        · intro w' hSw; try dsimp only at hSw
                          go_simp
                          try with_reducible rfl
                        try simp only [puts, gets]
                        refine any_take (by kernel_rfl) (i := 101) (oi := _) (v := ?_) rfl rfl (by kernel_rfl) (by kernel_rfl) (by kernel_rfl) (fun _ _ _ h => h) (Or.inl ⟨by rfl, ?_⟩) hHeld ?_
                        rotate_left
                        · intro w' hSw; try dsimp only at hSw
                          go_simp
                          try with_reducible rfl
                        try simp only [puts, gets]
                        refine any_take (by kernel_rfl) (i := 102) (oi := _) (v := ?_) rfl rfl (by kernel_rfl) (by kernel_rfl) (by kernel_rfl) (fun _ _ _ h => h) (Or.inl ⟨by rfl, ?_⟩) hHeld ?_
                        rotate_left
                        · intro w' hSw; try dsimp only at hSw
                          go_simp
                          try with_reducible rfl
                        try simp only [puts, gets]
                        refine any_take (by kernel_rfl) (i := 103) (oi := _) (v := ?_) rfl rfl (by kernel_rfl) (by kernel_rfl) (by kernel_rfl) (fun _ _ _ h => h) (Or.inl ⟨by rfl, ?_⟩) hHeld ?_
                        rotate_left
                        · intro w' hSw; try dsimp only at hSw
                          go_simp
                          try with_reducible rfl
                        try simp only [puts, gets]
                        refine any_take (by kernel_rfl) (i := 104) (oi := _) (v := ?_) rfl rfl (by kernel_rfl) (by kernel_rfl) (by kernel_rfl) (fun _ _ _ h => h) (Or.inl ⟨by rfl, ?_⟩) hHeld ?_
                        rotate_left
                        · intro w' hSw; try dsimp only at hSw
                          go_simp
                          try with_reducible rfl
                        try simp only [puts, gets]
                        refine any_take (by kernel_rfl) (i := 105) (oi := _) (v := ?_) rfl rfl (by kernel_rfl) (by kernel_rfl) (by kernel_rfl) (fun _ _ _ h => h) (Or.inl ⟨by rfl, ?_⟩) hHeld ?_
                        rotate_left
                        · intro w' hSw; try dsimp only at hSw
                          go_simp
                          try with_reducible rfl
                        try simp only [puts, gets]
                        refine any_next (i := 106) (by kernel_rfl) rfl rfl (fun K hK => ?_)
                        go_simp
                        go_at_call 62
                        refine (TRows_any 0 noTr _ (hT.keep bW) (noTr_ok _) lim_no (by decide +kernel)).mono ?_
                        rintro e w_106 ⟨uR2, LR2, rfl, HR6, HLR2, bC⟩
                        obtain ⟨pR, cR, rfl⟩ := HR6.form
                        have hl2 : LR2.length = 0 := by have := congrArg List.length HLR2.out; rw [rows_length] at this; rw [this]; decide +kernel
                        clear HR6
                        replace bW := below_trans bW bC
                        clear bC
                        refine hK.out _ _ (HALL2 _ bW) (fun hHeld => ?_)
                        clear hK K
                        try simp only [puts, gets]
                        refine any_take (by kernel_rfl) (i := 107) (oi := _) (v := ?_) rfl rfl (by kernel_rfl) (by kernel_rfl) (by kernel_rfl) (fun _ _ _ h => h) (Or.inl ⟨by rfl, ?_⟩) hHeld ?_
                        rotate_left
                        · intro w' hSw; try dsimp only at hSw
                          go_simp
                          try with_reducible rfl
                        try simp only [puts, gets]
                        refine any_take (by kernel_rfl) (i := 108) (oi := _) (v := ?_) rfl rfl (by kernel_rfl) (by kernel_rfl) (by kernel_rfl) (fun _ _ _ h => h) (Or.inl ⟨by rfl, ?_⟩) hHeld ?_
                        rotate_left
                        · intro w' hSw; try dsimp only at hSw
                          go_simp
                          try with_reducible rfl
                        try simp only [puts, gets]
                        as_aux_lemma =>
                          refine any_take (by kernel_rfl) (i := 109) (oi := _) (v := ?_) rfl rfl (by kernel_rfl) (by kernel_rfl) (by kernel_rfl) (fun _ _ _ h => h) (Or.inl ⟨by rfl, ?_⟩) hHeld ?_
                          rotate_left
                          · intro w' hSw; try dsimp only at hSw
                            go_simp
                            try with_reducible rfl
                          try simp only [puts, gets]
                          refine any_take (by kernel_rfl) (i := 110) (oi := _) (v := ?_) rfl rfl (by kernel_rfl) (by kernel_rfl) (by kernel_rfl) (fun _ _ _ h => h) (Or.inl ⟨by rfl, ?_⟩) hHeld ?_
                          rotate_left
                          · intro w' hSw; try dsimp only at hSw
                            go_simp
                            try with_reducible rfl
                          try simp only [puts, gets]
                          refine any_done (by kernel_rfl) ?_ _
                          refine NoPanic.normal ?_
                          have B9 := below_trans B6 bW
                          go_wp2
                          go_ret
                          exact ⟨rfl, B9⟩
                  · as_aux_lemma =>
                      have nX := below_new w_66 (.cells #[.int .i64 1, .int .i64 1, .string ⟨#[]⟩] 58)
                      have hL1 : IsVals (w_66.alloc (.cells #[.int .i64 1, .int .i64 1, .string ⟨#[]⟩] 58)) (.slice (some ⟨w_66.heap.size, 0, none⟩) 1 1) [intVl 1] := IsRows.lit w_66 [intVl 1] encsV (by decide)
                      refine step_lit fitsV (by kernel_rfl) _ rfl _ rfl _ #[.int .i64 1, .int .i64 1, .string ⟨#[]⟩] base58_1 (by decide) (by decide) [(0, .agg #[.int .i64 1, .int .i64 1, .string ⟨#[]⟩])] (by kernel_rfl) (by kernel_rfl) ?_
                      refine hK.out _ _ (HALL2 _ (bW.trans (nX.mono bW.size))) (fun hHeld => ?_)
                      clear hK K
                      try simp only [puts, gets]
                      replace bW := bW.trans (nX.mono bW.size)
                      clear nX
                      refine any_next (i := 72) (by kernel_rfl) rfl rfl (fun K hK => ?_)
                      go_simp
                      go_at_call 65
                      refine (hC _ (show IsTries _ (.slice (some ⟨bk, ok, none⟩) 2 t.ck) t.ks from by have := (ht.keep bW).tries; rwa [HK.out, HE.out] at this)).mono ?_
                      rintro e w_72 ⟨uC, LC, rfl, hIC, HLC, bC⟩
                      refine hK.out _ _ (HALL2 _ (below_trans bW bC)) (fun hHeld => ?_)
                      clear hK K hC
                      try simp only [puts, gets]
                      replace hL1 := hL1.keep bC
                      replace bW := below_trans bW bC
                      clear bC
                      have HLC2 := Lib.hid (show decide (LC = [intVl 1]) = true from decide_eq_true (by rw [HLC.out]; exact com_th))
                      refine any_next (i := 75) (by kernel_rfl) rfl rfl (fun K hK => ?_)
                      go_simp
                      go_at_call 64
                      refine (SameValues_any _ _ LC [intVl 1] _ hIC hL1).mono ?_
                      rintro e w_75 ⟨rfl, bC⟩
                      rw [HLC2.out]
                      replace bW := below_trans bW bC
                      clear bC
                      refine hK.out _ _ (HALL2 _ bW) (fun hHeld => ?_)
                      clear hK K
                      try simp only [puts, gets]
                      clear hIC hL1
                      have hC := fun W h1 h2 => TValid_any 2 t W h1 h2 HLI.out
                      rw [TV.out, HTT.out, valid_2] at hC
                      refine any_take (by kernel_rfl) (i := 76) (oi := _) (v := ?_) rfl rfl (by kernel_rfl) (by kernel_rfl) (by kernel_rfl) (fun _ _ _ h => h) (Or.inl ⟨by rfl, ?_⟩) hHeld ?_
                      rotate_left
                      · intro w' hSw; try dsimp only at hSw
                        go_simp
                        try with_reducible rfl
                      try simp only [puts, gets]
                      refine any_take (by kernel_rfl) (i := 77) (oi := _) (v := ?_) rfl rfl (by kernel_rfl) (by kernel_rfl) (by kernel_rfl) (fun _ _ _ h => h) (Or.inl ⟨by rfl, ?_⟩) hHeld ?_
                      rotate_left
                      · intro w' hSw; try dsimp only at hSw
                        go_simp
                        try with_reducible rfl
                      try simp only [puts, gets]
                      refine any_take (by kernel_rfl) (i := 78) (oi := _) (v := ?_) rfl rfl (by kernel_rfl) (by kernel_rfl) (by kernel_rfl) (fun _ _ _ h => h) (Or.inl ⟨by rfl, ?_⟩) hHeld ?_
                      rotate_left
                      · intro w' hSw; try dsimp only at hSw
                        go_simp
                        try with_reducible rfl
                      try simp only [puts, gets]
                      refine any_next (i := 79) (by kernel_rfl) rfl rfl (fun K hK => ?_)
                      go_simp
                      go_at_call 60
                      refine (hC _ (hT.keep bW) (ht.keep bW)).mono ?_
                      rintro e w_79 ⟨rfl, bC⟩
                      replace bW := below_trans bW bC
                      clear bC
                      refine hK.out _ _ (HALL2 _ bW) (fun hHeld => ?_)
                      clear hK K
                      try simp only [puts, gets]
                      clear hC
                      have hC := fun W h1 h2 => TValid_any 1 t W h1 h2 HLI.out
                      rw [TV.out, HTT.out, valid_1] at hC
                      refine any_take (by kernel_rfl) (i := 80) (oi := _) (v := ?_) rfl rfl (by kernel_rfl) (by kernel_rfl) (by kernel_rfl) (fun _ _ _ h => h) (Or.inl ⟨by rfl, ?_⟩) hHeld ?_
                      rotate_left
                      · intro w' hSw; try dsimp only at hSw
                        go_simp
                        try with_reducible rfl
                      try simp only [puts, gets]
                      refine any_take (by kernel_rfl) (i := 81) (oi := _) (v := ?_) rfl rfl (by kernel_rfl) (by kernel_rfl) (by kernel_rfl) (fun _ _ _ h => h) (Or.inl ⟨by rfl, ?_⟩) hHeld ?_
                      rotate_left
                      · intro w' hSw; try dsimp only at hSw
                        go_simp
                        try with_reducible rfl
                      try simp only [puts, gets]
                      refine any_take (by kernel_rfl) (i := 82) (oi := _) (v := ?_) rfl rfl (by kernel_rfl) (by kernel_rfl) (by kernel_rfl) (fun _ _ _ h => h) (Or.inl ⟨by rfl, ?_⟩) hHeld ?_
                      rotate_left
                      · intro w' hSw; try dsimp only at hSw
                        go_simp
                        try with_reducible rfl
                      try simp only [puts, gets]
                      refine any_next (i := 83) (by kernel_rfl) rfl rfl (fun K hK => ?_)
                      go_simp
                      go_at_call 60
                      refine (hC _ (hT.keep bW) (ht.keep bW)).mono ?_
                      rintro e w_83 ⟨rfl, bC⟩
                      replace bW := below_trans bW bC
                      clear bC
                      refine hK.out _ _ (HALL2 _ bW) (fun hHeld => ?_)
                      clear hK K
                      try simp only [puts, gets]
                      clear hC
                      have hC := fun W h1 h2 => TValid_any 3 t W h1 h2 HLI.out
                      rw [TV.out, HTT.out, valid_3] at hC
                      refine any_take (by kernel_rfl) (i := 84) (oi := _) (v := ?_) rfl rfl (by kernel_rfl) (by kernel_rfl) (by kernel_rfl) (fun _ _ _ h => h) (Or.inl ⟨by rfl, ?_⟩) hHeld ?_
                      rotate_left
                      · intro w' hSw; try dsimp only at hSw
                        go_simp
                        try with_reducible rfl
                      try simp only [puts, gets]
                      refine any_take (by kernel_rfl) (i := 85) (oi := _) (v := ?_) rfl rfl (by kernel_rfl) (by kernel_rfl) (by kernel_rfl) (fun _ _ _ h => h) (Or.inl ⟨by rfl, ?_⟩) hHeld ?_
                      rotate_left
                      · intro w' hSw; try dsimp only at hSw
                        go_simp
                        try with_reducible rfl
                      try simp only [puts, gets]
                      refine any_take (by kernel_rfl) (i := 86) (oi := _) (v := ?_) rfl rfl (by kernel_rfl) (by kernel_rfl) (by kernel_rfl) (fun _ _ _ h => h) (Or.inl ⟨by rfl, ?_⟩) hHeld ?_
                      rotate_left
                      · intro w' hSw; try dsimp only at hSw
                        go_simp
                        try with_reducible rfl
                      try simp only [puts, gets]
                      refine any_take (by kernel_rfl) (i := 87) (oi := _) (v := ?_) rfl rfl (by kernel_rfl) (by kernel_rfl) (by kernel_rfl) (fun _ _ _ h => h) (Or.inl ⟨by rfl, ?_⟩) hHeld ?_
                      rotate_left
                      · intro w' hSw; try dsimp only at hSw
                        go_simp
                        try with_reducible rfl
                      try simp only [puts, gets]
                      refine any_next (i := 88) (by kernel_rfl) rfl rfl (fun K hK => ?_)
                      go_simp
                      go_at_call 60
                      refine (hC _ (hT.keep bW) (ht.keep bW)).mono ?_
                      rintro e w_88 ⟨rfl, bC⟩
                      replace bW := below_trans bW bC
                      clear bC
                      refine hK.out _ _ (HALL2 _ bW) (fun hHeld => ?_)
                      clear hK K
                      try simp only [puts, gets]
                      clear hC
                      have hC := fun W h1 h2 => TRows_any 2 t W h1 h2 HLI.out (by rw [HTT.out, rows_th]; decide)
                      rw [TV.out, HTT.out, rows_th] at hC
                      refine any_take (by kernel_rfl) (i := 89) (oi := _) (v := ?_) rfl rfl (by kernel_rfl) (by kernel_rfl) (by kernel_rfl) (fun _ _ _ h => h) (Or.inl ⟨by rfl, ?_⟩) hHeld ?_
                      rotate_left
                      · intro w' hSw; try dsimp only at hSw
                        go_simp
                        try with_reducible rfl
                      try simp only [puts, gets]
                      refine any_take (by kernel_rfl) (i := 90) (oi := _) (v := ?_) rfl rfl (by kernel_rfl) (by kernel_rfl) (by kernel_rfl) (fun _ _ _ h => h) (Or.inl ⟨by rfl, ?_⟩) hHeld ?_
                      rotate_left
                      · intro w' hSw; try dsimp only at hSw
                        go_simp
                        try with_reducible rfl
                      try simp only [puts, gets]
                      as_aux_lemma =>
                        refine any_take (by kernel_rfl) (i := 91) (oi := _) (v := ?_) rfl rfl (by kernel_rfl) (by kernel_rfl) (by kernel_rfl) (fun _ _ _ h => h) (Or.inl ⟨by rfl, ?_⟩) hHeld ?_
                        rotate_left
                        · intro w' hSw; try dsimp only at hSw
                          go_simp
                          try with_reducible rfl
                        try simp only [puts, gets]
                        refine any_take (by kernel_rfl) (i := 92) (oi := _) (v := ?_) rfl rfl (by kernel_rfl) (by kernel_rfl) (by kernel_rfl) (fun _ _ _ h => h) (Or.inl ⟨by rfl, ?_⟩) hHeld ?_
                        rotate_left
                        · intro w' hSw; try dsimp only at hSw
                          go_simp
                          try with_reducible rfl
                        try simp only [puts, gets]
                        refine any_take (by kernel_rfl) (i := 94) (oi := _) (v := ?_) rfl rfl (by kernel_rfl) (by kernel_rfl) (by kernel_rfl) (fun _ _ _ h => h) (Or.inl ⟨by rfl, ?_⟩) hHeld ?_
                        rotate_left
                        · intro w' hSw; try dsimp only at hSw
                          go_simp
                          try with_reducible rfl
                        try simp only [puts, gets]
                        refine any_next (i := 93) (by kernel_rfl) rfl rfl (fun K hK => ?_)
                        go_simp
                        go_at_call 62
                        refine (hC _ (hT.keep bW) (ht.keep bW)).mono ?_
                        rintro e w_93 ⟨uR, LR, rfl, HR5, HLR, bC⟩
                        have hRel := HR5.rel (by have := congrArg List.length HLR.out; rw [rows_length] at this; rw [this]; decide)
                        clear HR5
                        replace bW := below_trans bW bC
                        clear bC
                        refine hK.out _ _ (HALL2 _ bW) (fun hHeld => ?_)
                        clear hK K
                        try simp only [puts, gets]
                        clear hC
                        refine any_next (i := 95) (by kernel_rfl) rfl rfl (fun K hK => ?_)
                        go_simp
                        go_at_call 24
                        refine (rSameR_any _ _ LR rs _ hRel (R5.keep bW)).mono ?_
                        rintro e w_95 ⟨rfl, bC⟩
                        rw [decide_eq_true (HLR.out.trans HRS.out.symm)]
                        replace bW := below_trans bW bC
                        clear bC
                        refine hK.out _ _ (HALL2 _ bW) (fun hHeld => ?_)
                        clear hK K
                        try simp only [puts, gets]
                        clear hRel
                        refine any_take (by kernel_rfl) (i := 96) (oi := _) (v := ?_) rfl rfl (by kernel_rfl) (by kernel_rfl) (by kernel_rfl) (fun _ _ _ h => h) (Or.inl ⟨by rfl, ?_⟩) hHeld ?_
                        rotate_left
                        · intro w' hSw; try dsimp only at hSw
                          go_simp
                          try with_reducible rfl
                        try simp only [puts, gets]
                        refine any_take (by kernel_rfl) (i := 97) (oi := _) (v := ?_) rfl rfl (by kernel_rfl) (by kernel_rfl) (by kernel_rfl) (fun _ _ _ h => h) (Or.inl ⟨by rfl, ?_⟩) hHeld ?_
                        rotate_left
                        · intro w' hSw; try dsimp only at hSw
                          go_simp
                          try with_reducible rfl
                        try simp only [puts, gets]
                        refine any_take (by kernel_rfl) (i := 98) (oi := _) (v := ?_) rfl rfl (by kernel_rfl) (by kernel_rfl) (by kernel_rfl) (fun _ _ _ h => h) (Or.inl ⟨by rfl, ?_⟩) hHeld ?_
                        rotate_left
                        · intro w' hSw; try dsimp only at hSw
                          go_simp
                          try with_reducible rfl
                        try simp only [puts, gets]
                        refine any_next (i := 99) (by kernel_rfl) rfl rfl (fun K hK => ?_)
                        go_simp
                        go_at_call 57
                        refine (TBuild_any _ 1 rs _ (hT.keep bW) (R5.keep bW) HSM.out).mono ?_
                        rintro e w_99 ⟨t2, rfl, -, HT2, bC⟩
                        have hv2 : t2.vs.length = 0 := by have h := built_one HRS.out HT2.out; rw [TR.tr_vs] at h; rw [h]; rfl
                        unfold trV
                        have hfd : ∀ w : World, (Instr.field 64 (.agg #[t2.vv, t2.kv, t2.wv]) 0).run Tryd.prog w = .ok (.slice t2.pv 0 t2.cv) w := fun w => (show _ = Result.ok t2.vv w from by kernel_rfl).trans (by show Result.ok (Value.slice t2.pv t2.vs.length t2.cv) w = _; rw [hv2])
                        replace bW := below_trans bW bC
                        clear bC
                        refine hK.out _ _ (HALL2 _ bW) (fun hHeld => ?_)
                        clear hK K
                        try simp only [puts, gets]
                        refine any_take (by kernel_rfl) (i := 100) (oi := _) (v := ?_) rfl rfl (by kernel_rfl) (by kernel_rfl) (by kernel_rfl) (fun _ _ _ h => h) (Or.inl ⟨by rfl, ?_⟩) hHeld ?_
                        rotate_left
                        · intro w' hSw; try dsimp only at hSw
                          go_simp
                          try with_reducible rfl
                        try simp only [puts, gets]
                        refine any_take (by kernel_rfl) (i := 101) (oi := _) (v := ?_) rfl rfl (by kernel_rfl) (by kernel_rfl) (by kernel_rfl) (fun _ _ _ h => h) (Or.inl ⟨by rfl, ?_⟩) hHeld ?_
                        rotate_left
                        · intro w' hSw; try dsimp only at hSw
                          go_simp
                          try with_reducible rfl
                        try simp only [puts, gets]
                        refine any_take (by kernel_rfl) (i := 102) (oi := _) (v := ?_) rfl rfl (by kernel_rfl) (by kernel_rfl) (by kernel_rfl) (fun _ _ _ h => h) (Or.inl ⟨by rfl, ?_⟩) hHeld ?_
                        rotate_left
                        · intro w' hSw; try dsimp only at hSw
                          go_simp
                          try with_reducible rfl
                        try simp only [puts, gets]
                        refine any_take (by kernel_rfl) (i := 103) (oi := _) (v := ?_) rfl rfl (by kernel_rfl) (by kernel_rfl) (by kernel_rfl) (fun _ _ _ h => h) (Or.inl ⟨by rfl, ?_⟩) hHeld ?_
                        rotate_left
                        · intro w' hSw; try dsimp only at hSw
                          go_simp
                          try with_reducible rfl
                        try simp only [puts, gets]
                        refine any_take (by kernel_rfl) (i := 104) (oi := _) (v := ?_) rfl rfl (by kernel_rfl) (by kernel_rfl) (by kernel_rfl) (fun _ _ _ h => h) (Or.inl ⟨by rfl, ?_⟩) hHeld ?_
                        rotate_left
                        · intro w' hSw; try dsimp only at hSw
                          go_simp
                          try with_reducible rfl
                        try simp only [puts, gets]
                        refine any_take (by kernel_rfl) (i := 105) (oi := _) (v := ?_) rfl rfl (by kernel_rfl) (by kernel_rfl) (by kernel_rfl) (fun _ _ _ h => h) (Or.inl ⟨by rfl, ?_⟩) hHeld ?_
                        rotate_left
                        · intro w' hSw; try dsimp only at hSw
                          go_simp
                          try with_reducible rfl
                        try simp only [puts, gets]
                        refine any_next (i := 106) (by kernel_rfl) rfl rfl (fun K hK => ?_)
                        go_simp
                        go_at_call 62
                        refine (TRows_any 0 noTr _ (hT.keep bW) (noTr_ok _) lim_no (by decide +kernel)).mono ?_
                        rintro e w_106 ⟨uR2, LR2, rfl, HR6, HLR2, bC⟩
                        obtain ⟨pR, cR, rfl⟩ := HR6.form
                        have hl2 : LR2.length = 0 := by have := congrArg List.length HLR2.out; rw [rows_length] at this; rw [this]; decide +kernel
                        clear HR6
                        replace bW := below_trans bW bC
                        clear bC
                        refine hK.out _ _ (HALL2 _ bW) (fun hHeld => ?_)
                        clear hK K
                        try simp only [puts, gets]
                        refine any_take (by kernel_rfl) (i := 107) (oi := _) (v := ?_) rfl rfl (by kernel_rfl) (by kernel_rfl) (by kernel_rfl) (fun _ _ _ h => h) (Or.inl ⟨by rfl, ?_⟩) hHeld ?_
                        rotate_left
                        · intro w' hSw; try dsimp only at hSw
                          go_simp
                          try with_reducible rfl
                        try simp only [puts, gets]
                        refine any_take (by kernel_rfl) (i := 108) (oi := _) (v := ?_) rfl rfl (by kernel_rfl) (by kernel_rfl) (by kernel_rfl) (fun _ _ _ h => h) (Or.inl ⟨by rfl, ?_⟩) hHeld ?_
                        rotate_left
                        · intro w' hSw; try dsimp only at hSw
                          go_simp
                          try with_reducible rfl
                        try simp only [puts, gets]
                        as_aux_lemma =>
                          refine any_take (by kernel_rfl) (i := 109) (oi := _) (v := ?_) rfl rfl (by kernel_rfl) (by kernel_rfl) (by kernel_rfl) (fun _ _ _ h => h) (Or.inl ⟨by rfl, ?_⟩) hHeld ?_
                          rotate_left
                          · intro w' hSw; try dsimp only at hSw
                            go_simp
                            try with_reducible rfl
                          try simp only [puts, gets]
                          refine any_take (by kernel_rfl) (i := 110) (oi := _) (v := ?_) rfl rfl (by kernel_rfl) (by kernel_rfl) (by kernel_rfl) (fun _ _ _ h => h) (Or.inl ⟨by rfl, ?_⟩) hHeld ?_
                          rotate_left
                          · intro w' hSw; try dsimp only at hSw
                            go_simp
                            try with_reducible rfl
                          try simp only [puts, gets]
                          refine any_done (by kernel_rfl) ?_ _
                          refine NoPanic.normal ?_
                          have B9 := below_trans B6 bW
                          go_wp2
                          go_ret
                          exact ⟨rfl, B9⟩
  refine any_merge (fun f d a w => f = 4 ∧ d = #[true, true, true, true, true, true, true, true, true, true, true, true, false, true, false, false, false] ∧ ∃ (p0 : Option Addr) (p1 : Option Addr) (q0 : Option Addr) (q1 : Option Addr) (q2 : Option Addr), a = ⟨#[(.bool false), (.pointer (some ⟨g1, 0, none⟩)), (.pointer (some ⟨g2, 0, none⟩)), (.pointer (some ⟨g3, 0, none⟩)), (.pointer (some ⟨g4, 0, none⟩)), undef, undef, undef, undef, undef, undef, undef, undef, (.agg #[.int .i64 2, .int .i64 0, .string ⟨#[97]⟩]), (.agg #[.int .i64 2, .int .i64 0, .string ⟨#[98]⟩]), (.agg #[.int .i64 1, .int .i64 1, .string ⟨#[]⟩]), (.agg #[.int .i64 1, .int .i64 2, .string ⟨#[]⟩]), (.agg #[.int .i64 2, .int .i64 0, .string ⟨#[97]⟩]), (.agg #[.int .i64 1, .int .i64 1, .string ⟨#[]⟩]), (.slice p0 2 2), (.slice q0 1 1), (.agg #[.slice p0 2 2, .slice q0 1 1]), (.agg #[.int .i64 2, .int .i64 0, .string ⟨#[97]⟩]), (.agg #[.int .i64 1, .int .i64 2, .string ⟨#[]⟩]), (.slice p1 2 2), (.slice q1 1 1), (.agg #[.slice p1 2 2, .slice q1 1 1]), (.agg #[.int .i64 2, .int .i64 0, .string ⟨#[98]⟩]), (.agg #[.int .i64 1, .int .i64 1, .string ⟨#[]⟩]), undef, (.slice q2 1 1), undef, undef, undef, undef, undef, undef, undef, undef, undef, undef, undef, undef, undef, undef, undef, undef, undef, undef, undef, undef, undef, undef, undef, undef, undef, undef, undef, undef, undef, undef, undef, undef, undef, undef, undef, undef, undef, undef, undef, undef, undef, undef, undef, undef, undef, undef, undef, undef, undef, undef, undef, undef, undef, undef, undef, undef, undef, undef, undef, undef, undef, undef, undef, undef, undef, undef, undef, undef, undef, undef, undef, undef, undef, undef, undef, undef, undef, undef, undef, undef, undef, undef, undef, undef, undef, undef, undef, undef, undef, undef, undef, undef, undef, undef, undef, undef, undef, undef, undef, undef, undef, undef, undef, undef, undef, undef, undef, undef, undef, undef, undef, undef, undef, undef, undef, undef, undef, undef, undef, undef, undef, undef, undef, undef, undef, undef, undef, undef, undef, undef, undef, undef, undef, undef, undef, undef, undef, undef, undef, undef, undef, undef, undef, undef, undef, undef, undef, undef, undef, undef, undef, undef, undef, undef, undef, undef, undef, undef, undef, undef, undef, undef, undef, undef], []⟩ ∧ IsVals w (.slice p0 2 2) tA1 ∧ IsVals w (.slice p1 2 2) tA2 ∧ IsSpans w (.slice q0 1 1) [(0, 5)] ∧ IsSpans w (.slice q1 1 1) [(0, 5)] ∧ IsSpans w (.slice q2 1 1) [(0, 5)] ∧ Below w4.heap.size w4 w) ?mM01_3 (fun M01_3 => ?_)
  case mM01_3 =>
    rintro f d a w ⟨rfl, rfl, p0, p1, q0, q1, q2, rfl, v0, v1, s0, s1, s2, bW⟩
    as_aux_lemma =>
      have hHeld := HALL _ bW
      refine any_next (i := 12) (by kernel_rfl) rfl rfl (fun K hK => ?_)
      have nX := below_new w (.cells #[(.int .i64 2), (.int .i64 0), (.string ⟨#[98]⟩), (.int .i64 1), (.int .i64 1), (.string ⟨#[]⟩)] 58)
      have hX : IsVals (w.alloc (.cells #[(.int .i64 2), (.int .i64 0), (.string ⟨#[98]⟩), (.int .i64 1), (.int .i64 1), (.string ⟨#[]⟩)] 58)) (.slice (some ⟨w.heap.size, 0, none⟩) 2 2) tB1 := IsRows.lit w tB1 encsV (by decide)
      refine step_lit fitsV (by kernel_rfl) _ rfl _ rfl _ #[(.int .i64 2), (.int .i64 0), (.string ⟨#[98]⟩), (.int .i64 1), (.int .i64 1), (.string ⟨#[]⟩)] base58_2 (by decide) (by decide) [(0, .agg #[(.int .i64 2), (.int .i64 0), (.string ⟨#[98]⟩)]), (1, .agg #[(.int .i64 1), (.int .i64 1), (.string ⟨#[]⟩)])] (by kernel_rfl) (by kernel_rfl) ?_
      refine hK.out _ _ (HALL _ (bW.trans (nX.mono bW.size))) (fun hHeld => ?_)
      clear hK K
      try simp only [puts, gets]
      refine any_take (by kernel_rfl) (i := 14) (oi := _) (v := ?_) rfl rfl (by kernel_rfl) (by kernel_rfl) (by kernel_rfl) (fun _ _ _ h => h) (Or.inl ⟨by rfl, ?_⟩) hHeld ?_
      rotate_left
      · intro w' hSw; try dsimp only at hSw
        go_simp
        try with_reducible rfl
      try simp only [puts, gets]
      exact M012_3 _ _ _ _ ⟨rfl, rfl, _, _, _, _, _, _, rfl, v0.keep nX, v1.keep nX, hX, s0.keep nX, s1.keep nX, s2.keep nX, bW.trans (nX.mono bW.size)⟩
  refine any_merge (fun f d a w => f = 4 ∧ d = #[true, true, true, true, true, true, true, false, true, false, true, true, true, true, true, false, false] ∧ ∃ (p0 : Option Addr) (p2 : Option Addr) (q0 : Option Addr) (q1 : Option Addr) (q2 : Option Addr), a = ⟨#[(.bool false), (.pointer (some ⟨g1, 0, none⟩)), (.pointer (some ⟨g2, 0, none⟩)), (.pointer (some ⟨g3, 0, none⟩)), (.pointer (some ⟨g4, 0, none⟩)), undef, undef, undef, undef, undef, undef, undef, undef, (.agg #[.int .i64 2, .int .i64 0, .string ⟨#[97]⟩]), (.agg #[.int .i64 2, .int .i64 0, .string ⟨#[98]⟩]), (.agg #[.int .i64 1, .int .i64 1, .string ⟨#[]⟩]), (.agg #[.int .i64 1, .int .i64 2, .string ⟨#[]⟩]), (.agg #[.int .i64 2, .int .i64 0, .string ⟨#[97]⟩]), (.agg #[.int .i64 1, .int .i64 1, .string ⟨#[]⟩]), (.slice p0 2 2), (.slice q0 1 1), (.agg #[.slice p0 2 2, .slice q0 1 1]), (.agg #[.int .i64 2, .int .i64 0, .string ⟨#[97]⟩]), (.agg #[.int .i64 1, .int .i64 2, .string ⟨#[]⟩]), undef, (.slice q1 1 1), undef, (.agg #[.int .i64 2, .int .i64 0, .string ⟨#[98]⟩]), (.agg #[.int .i64 1, .int .i64 1, .string ⟨#[]⟩]), (.slice p2 2 2), (.slice q2 1 1), (.agg #[.slice p2 2 2, .slice q2 1 1]), undef, undef, undef, undef, undef, undef, undef, undef, undef, undef, undef, undef, undef, undef, undef, undef, undef, undef, undef, undef, undef, undef, undef, undef, undef, undef, undef, undef, undef, undef, undef, undef, undef, undef, undef, undef, undef, undef, undef, undef, undef, undef, undef, undef, undef, undef, undef, undef, undef, undef, undef, undef, undef, undef, undef, undef, undef, undef, undef, undef, undef, undef, undef, undef, undef, undef, undef, undef, undef, undef, undef, undef, undef, undef, undef, undef, undef, undef, undef, undef, undef, undef, undef, undef, undef, undef, undef, undef, undef, undef, undef, undef, undef, undef, undef, undef, undef, undef, undef, undef, undef, undef, undef, undef, undef, undef, undef, undef, undef, undef, undef, undef, undef, undef, undef, undef, undef, undef, undef, undef, undef, undef, undef, undef, undef, undef, undef, undef, undef, undef, undef, undef, undef, undef, undef, undef, undef, undef, undef, undef, undef, undef, undef, undef, undef, undef, undef, undef, undef, undef, undef, undef, undef, undef, undef, undef, undef, undef, undef, undef, undef, undef, undef], []⟩ ∧ IsVals w (.slice p0 2 2) tA1 ∧ IsVals w (.slice p2 2 2) tB1 ∧ IsSpans w (.slice q0 1 1) [(0, 5)] ∧ IsSpans w (.slice q1 1 1) [(0, 5)] ∧ IsSpans w (.slice q2 1 1) [(0, 5)] ∧ Below w4.heap.size w4 w) ?mM02_3 (fun M02_3 => ?_)
  case mM02_3 =>
    rintro f d a w ⟨rfl, rfl, p0, p2, q0, q1, q2, rfl, v0, v2, s0, s1, s2, bW⟩
    as_aux_lemma =>
      have hHeld := HALL _ bW
      refine any_next (i := 7) (by kernel_rfl) rfl rfl (fun K hK => ?_)
      have nX := below_new w (.cells #[(.int .i64 2), (.int .i64 0), (.string ⟨#[97]⟩), (.int .i64 1), (.int .i64 2), (.string ⟨#[]⟩)] 58)
      have hX : IsVals (w.alloc (.cells #[(.int .i64 2), (.int .i64 0), (.string ⟨#[97]⟩), (.int .i64 1), (.int .i64 2), (.string ⟨#[]⟩)] 58)) (.slice (some ⟨w.heap.size, 0, none⟩) 2 2) tA2 := IsRows.lit w tA2 encsV (by decide)
      refine step_lit fitsV (by kernel_rfl) _ rfl _ rfl _ #[(.int .i64 2), (.int .i64 0), (.string ⟨#[97]⟩), (.int .i64 1), (.int .i64 2), (.string ⟨#[]⟩)] base58_2 (by decide) (by decide) [(0, .agg #[(.int .i64 2), (.int .i64 0), (.string ⟨#[97]⟩)]), (1, .agg #[(.int .i64 1), (.int .i64 2), (.string ⟨#[]⟩)])] (by kernel_rfl) (by kernel_rfl) ?_
      refine hK.out _ _ (HALL _ (bW.trans (nX.mono bW.size))) (fun hHeld => ?_)
      clear hK K
      try simp only [puts, gets]
      refine any_take (by kernel_rfl) (i := 9) (oi := _) (v := ?_) rfl rfl (by kernel_rfl) (by kernel_rfl) (by kernel_rfl) (fun _ _ _ h => h) (Or.inl ⟨by rfl, ?_⟩) hHeld ?_
      rotate_left
      · intro w' hSw; try dsimp only at hSw
        go_simp
        try with_reducible rfl
      try simp only [puts, gets]
      exact M012_3 _ _ _ _ ⟨rfl, rfl, _, _, _, _, _, _, rfl, v0.keep nX, hX, v2.keep nX, s0.keep nX, s1.keep nX, s2.keep nX, bW.trans (nX.mono bW.size)⟩
  refine any_merge (fun f d a w => f = 4 ∧ d = #[true, true, false, true, false, true, true, true, true, true, true, true, true, true, true, false, false] ∧ ∃ (p1 : Option Addr) (p2 : Option Addr) (q0 : Option Addr) (q1 : Option Addr) (q2 : Option Addr), a = ⟨#[(.bool false), (.pointer (some ⟨g1, 0, none⟩)), (.pointer (some ⟨g2, 0, none⟩)), (.pointer (some ⟨g3, 0, none⟩)), (.pointer (some ⟨g4, 0, none⟩)), undef, undef, undef, undef, undef, undef, undef, undef, (.agg #[.int .i64 2, .int .i64 0, .string ⟨#[97]⟩]), (.agg #[.int .i64 2, .int .i64 0, .string ⟨#[98]⟩]), (.agg #[.int .i64 1, .int .i64 1, .string ⟨#[]⟩]), (.agg #[.int .i64 1, .int .i64 2, .string ⟨#[]⟩]), (.agg #[.int .i64 2, .int .i64 0, .string ⟨#[97]⟩]), (.agg #[.int .i64 1, .int .i64 1, .string ⟨#[]⟩]), undef, (.slice q0 1 1), undef, (.agg #[.int .i64 2, .int .i64 0, .string ⟨#[97]⟩]), (.agg #[.int .i64 1, .int .i64 2, .string ⟨#[]⟩]), (.slice p1 2 2), (.slice q1 1 1), (.agg #[.slice p1 2 2, .slice q1 1 1]), (.agg #[.int .i64 2, .int .i64 0, .string ⟨#[98]⟩]), (.agg #[.int .i64 1, .int .i64 1, .string ⟨#[]⟩]), (.slice p2 2 2), (.slice q2 1 1), (.agg #[.slice p2 2 2, .slice q2 1 1]), undef, undef, undef, undef, undef, undef, undef, undef, undef, undef, undef, undef, undef, undef, undef, undef, undef, undef, undef, undef, undef, undef, undef, undef, undef, undef, undef, undef, undef, undef, undef, undef, undef, undef, undef, undef, undef, undef, undef, undef, undef, undef, undef, undef, undef, undef, undef, undef, undef, undef, undef, undef, undef, undef, undef, undef, undef, undef, undef, undef, undef, undef, undef, undef, undef, undef, undef, undef, undef, undef, undef, undef, undef, undef, undef, undef, undef, undef, undef, undef, undef, undef, undef, undef, undef, undef, undef, undef, undef, undef, undef, undef, undef, undef, undef, undef, undef, undef, undef, undef, undef, undef, undef, undef, undef, undef, undef, undef, undef, undef, undef, undef, undef, undef, undef, undef, undef, undef, undef, undef, undef, undef, undef, undef, undef, undef, undef, undef, undef, undef, undef, undef, undef, undef, undef, undef, undef, undef, undef, undef, undef, undef, undef, undef, undef, undef, undef, undef, undef, undef, undef, undef, undef, undef, undef, undef, undef, undef, undef, undef, undef, undef, undef], []⟩ ∧ IsVals w (.slice p1 2 2) tA2 ∧ IsVals w (.slice p2 2 2) tB1 ∧ IsSpans w (.slice q0 1 1) [(0, 5)] ∧ IsSpans w (.slice q1 1 1) [(0, 5)] ∧ IsSpans w (.slice q2 1 1) [(0, 5)] ∧ Below w4.heap.size w4 w) ?mM12_3 (fun M12_3 => ?_)
  case mM12_3 =>
    rintro f d a w ⟨rfl, rfl, p1, p2, q0, q1, q2, rfl, v1, v2, s0, s1, s2, bW⟩
    as_aux_lemma =>
      have hHeld := HALL _ bW
      refine any_next (i := 2) (by kernel_rfl) rfl rfl (fun K hK => ?_)
      have nX := below_new w (.cells #[(.int .i64 2), (.int .i64 0), (.string ⟨#[97]⟩), (.int .i64 1), (.int .i64 1), (.string ⟨#[]⟩)] 58)
      have hX : IsVals (w.alloc (.cells #[(.int .i64 2), (.int .i64 0), (.string ⟨#[97]⟩), (.int .i64 1), (.int .i64 1), (.string ⟨#[]⟩)] 58)) (.slice (some ⟨w.heap.size, 0, none⟩) 2 2) tA1 := IsRows.lit w tA1 encsV (by decide)
      refine step_lit fitsV (by kernel_rfl) _ rfl _ rfl _ #[(.int .i64 2), (.int .i64 0), (.string ⟨#[97]⟩), (.int .i64 1), (.int .i64 1), (.string ⟨#[]⟩)] base58_2 (by decide) (by decide) [(0, .agg #[(.int .i64 2), (.int .i64 0), (.string ⟨#[97]⟩)]), (1, .agg #[(.int .i64 1), (.int .i64 1), (.string ⟨#[]⟩)])] (by kernel_rfl) (by kernel_rfl) ?_
      refine hK.out _ _ (HALL _ (bW.trans (nX.mono bW.size))) (fun hHeld => ?_)
      clear hK K
      try simp only [puts, gets]
      refine any_take (by kernel_rfl) (i := 4) (oi := _) (v := ?_) rfl rfl (by kernel_rfl) (by kernel_rfl) (by kernel_rfl) (fun _ _ _ h => h) (Or.inl ⟨by rfl, ?_⟩) hHeld ?_
      rotate_left
      · intro w' hSw; try dsimp only at hSw
        go_simp
        try with_reducible rfl
      try simp only [puts, gets]
      exact M012_3 _ _ _ _ ⟨rfl, rfl, _, _, _, _, _, _, rfl, hX, v1.keep nX, v2.keep nX, s0.keep nX, s1.keep nX, s2.keep nX, bW.trans (nX.mono bW.size)⟩
  refine any_merge (fun f d a w => f = 4 ∧ d = #[true, true, true, true, true, true, true, true, true, true, true, true, true, false, false, false, false] ∧ ∃ (p0 : Option Addr) (p1 : Option Addr) (p2 : Option Addr) (q0 : Option Addr) (q1 : Option Addr), a = ⟨#[(.bool false), (.pointer (some ⟨g1, 0, none⟩)), (.pointer (some ⟨g2, 0, none⟩)), (.pointer (some ⟨g3, 0, none⟩)), (.pointer (some ⟨g4, 0, none⟩)), undef, undef, undef, undef, undef, undef, undef, undef, (.agg #[.int .i64 2, .int .i64 0, .string ⟨#[97]⟩]), (.agg #[.int .i64 2, .int .i64 0, .string ⟨#[98]⟩]), (.agg #[.int .i64 1, .int .i64 1, .string ⟨#[]⟩]), (.agg #[.int .i64 1, .int .i64 2, .string ⟨#[]⟩]), (.agg #[.int .i64 2, .int .i64 0, .string ⟨#[97]⟩]), (.agg #[.int .i64 1, .int .i64 1, .string ⟨#[]⟩]), (.slice p0 2 2), (.slice q0 1 1), (.agg #[.slice p0 2 2, .slice q0 1 1]), (.agg #[.int .i64 2, .int .i64 0, .string ⟨#[97]⟩]), (.agg #[.int .i64 1, .int .i64 2, .string ⟨#[]⟩]), (.slice p1 2 2), (.slice q1 1 1), (.agg #[.slice p1 2 2, .slice q1 1 1]), (.agg #[.int .i64 2, .int .i64 0, .string ⟨#[98]⟩]), (.agg #[.int .i64 1, .int .i64 1, .string ⟨#[]⟩]), (.slice p2 2 2), undef, undef, undef, undef, undef, undef, undef, undef, undef, undef, undef, undef, undef, undef, undef, undef, undef, undef, undef, undef, undef, undef, undef, undef, undef, undef, undef, undef, undef, undef, undef, undef, undef, undef, undef, undef, undef, undef, undef, undef, undef, undef, undef, undef, undef, undef, undef, undef, undef, undef, undef, undef, undef, undef, undef, undef, undef, undef, undef, undef, undef, undef, undef, undef, undef, undef, undef, undef, undef, undef, undef, undef, undef, undef, undef, undef, undef, undef, undef, undef, undef, undef, undef, undef, undef, undef, undef, undef, undef, undef, undef, undef, undef, undef, undef, undef, undef, undef, undef, undef, undef, undef, undef, undef, undef, undef, undef, undef, undef, undef, undef, undef, undef, undef, undef, undef, undef, undef, undef, undef, undef, undef, undef, undef, undef, undef, undef, undef, undef, undef, undef, undef, undef, undef, undef, undef, undef, undef, undef, undef, undef, undef, undef, undef, undef, undef, undef, undef, undef, undef, undef, undef, undef, undef, undef, undef, undef, undef, undef, undef, undef, undef, undef, undef, undef], []⟩ ∧ IsVals w (.slice p0 2 2) tA1 ∧ IsVals w (.slice p1 2 2) tA2 ∧ IsVals w (.slice p2 2 2) tB1 ∧ IsSpans w (.slice q0 1 1) [(0, 5)] ∧ IsSpans w (.slice q1 1 1) [(0, 5)] ∧ Below w4.heap.size w4 w) ?mM012_2 (fun M012_2 => ?_)
  case mM012_2 =>
    rintro f d a w ⟨rfl, rfl, p0, p1, p2, q0, q1, rfl, v0, v1, v2, s0, s1, bW⟩
    as_aux_lemma =>
      have hHeld := HALL _ bW
      refine any_next (i := 13) (by kernel_rfl) rfl rfl (fun K hK => ?_)
      have nX := below_new w (.cells #[.int .i64 0, .int .i64 5] 86)
      have hX : IsSpans (w.alloc (.cells #[.int .i64 0, .int .i64 5] 86)) (.slice (some ⟨w.heap.size, 0, none⟩) 1 1) [(0, 5)] := IsSpans.of_rows (IsRows.lit w [(0, 5)] encsS (by decide))
      go_simp
      go_at_call 100
      refine (five_any _).mono ?_
      rintro e wY ⟨rfl, rfl⟩
      refine hK.out _ _ (HALL _ (bW.trans (nX.mono bW.size))) (fun hHeld => ?_)
      clear hK K
      try simp only [puts, gets]
      refine any_take (by kernel_rfl) (i := 14) (oi := _) (v := ?_) rfl rfl (by kernel_rfl) (by kernel_rfl) (by kernel_rfl) (fun _ _ _ h => h) (Or.inl ⟨by rfl, ?_⟩) hHeld ?_
      rotate_left
      · intro w' hSw; try dsimp only at hSw
        go_simp
        try with_reducible rfl
      try simp only [puts, gets]
      exact M012_3 _ _ _ _ ⟨rfl, rfl, _, _, _, _, _, _, rfl, v0.keep nX, v1.keep nX, v2.keep nX, s0.keep nX, s1.keep nX, hX, bW.trans (nX.mono bW.size)⟩
  refine any_merge (fun f d a w => f = 6 ∧ d = #[true, true, true, true, true, true, true, false, true, false, true, true, false, true, false, false, false] ∧ ∃ (p0 : Option Addr) (q0 : Option Addr) (q1 : Option Addr) (q2 : Option Addr), a = ⟨#[(.bool false), (.pointer (some ⟨g1, 0, none⟩)), (.pointer (some ⟨g2, 0, none⟩)), (.pointer (some ⟨g3, 0, none⟩)), (.pointer (some ⟨g4, 0, none⟩)), undef, undef, undef, undef, undef, undef, undef, undef, (.agg #[.int .i64 2, .int .i64 0, .string ⟨#[97]⟩]), (.agg #[.int .i64 2, .int .i64 0, .string ⟨#[98]⟩]), (.agg #[.int .i64 1, .int .i64 1, .string ⟨#[]⟩]), (.agg #[.int .i64 1, .int .i64 2, .string ⟨#[]⟩]), (.agg #[.int .i64 2, .int .i64 0, .string ⟨#[97]⟩]), (.agg #[.int .i64 1, .int .i64 1, .string ⟨#[]⟩]), (.slice p0 2 2), (.slice q0 1 1), (.agg #[.slice p0 2 2, .slice q0 1 1]), (.agg #[.int .i64 2, .int .i64 0, .string ⟨#[97]⟩]), (.agg #[.int .i64 1, .int .i64 2, .string ⟨#[]⟩]), undef, (.slice q1 1 1), undef, (.agg #[.int .i64 2, .int .i64 0, .string ⟨#[98]⟩]), (.agg #[.int .i64 1, .int .i64 1, .string ⟨#[]⟩]), undef, (.slice q2 1 1), undef, undef, undef, undef, undef, undef, undef, undef, undef, undef, undef, undef, undef, undef, undef, undef, undef, undef, undef, undef, undef, undef, undef, undef, undef, undef, undef, undef, undef, undef, undef, undef, undef, undef, undef, undef, undef, undef, undef, undef, undef, undef, undef, undef, undef, undef, undef, undef, undef, undef, undef, undef, undef, undef, undef, undef, undef, undef, undef, undef, undef, undef, undef, undef, undef, undef, undef, undef, undef, undef, undef, undef, undef, undef, undef, undef, undef, undef, undef, undef, undef, undef, undef, undef, undef, undef, undef, undef, undef, undef, undef, undef, undef, undef, undef, undef, undef, undef, undef, undef, undef, undef, undef, undef, undef, undef, undef, undef, undef, undef, undef, undef, undef, undef, undef, undef, undef, undef, undef, undef, undef, undef, undef, undef, undef, undef, undef, undef, undef, undef, undef, undef, undef, undef, undef, undef, undef, undef, undef, undef, undef, undef, undef, undef, undef, undef, undef, undef, undef, undef, undef, undef, undef, undef, undef, undef, undef, undef, undef, undef, undef, undef, undef, undef], []⟩ ∧ IsVals w (.slice p0 2 2) tA1 ∧ IsSpans w (.slice q0 1 1) [(0, 5)] ∧ IsSpans w (.slice q1 1 1) [(0, 5)] ∧ IsSpans w (.slice q2 1 1) [(0, 5)] ∧ Below w4.heap.size w4 w) ?mM0_3 (fun M0_3 => ?_)
  case mM0_3 =>
    rintro f d a w ⟨rfl, rfl, p0, q0, q1, q2, rfl, v0, s0, s1, s2, bW⟩
    as_aux_lemma =>
      have hHeld := HALL _ bW
      refine any_two (i := 7) (j := 12) (by kernel_rfl) rfl rfl rfl rfl (fun K hK => ?_) (fun K hK => ?_)
      · have nX := below_new w (.cells #[(.int .i64 2), (.int .i64 0), (.string ⟨#[97]⟩), (.int .i64 1), (.int .i64 2), (.string ⟨#[]⟩)] 58)
        have hX : IsVals (w.alloc (.cells #[(.int .i64 2), (.int .i64 0), (.string ⟨#[97]⟩), (.int .i64 1), (.int .i64 2), (.string ⟨#[]⟩)] 58)) (.slice (some ⟨w.heap.size, 0, none⟩) 2 2) tA2 := IsRows.lit w tA2 encsV (by decide)
        refine step_lit fitsV (by kernel_rfl) _ rfl _ rfl _ #[(.int .i64 2), (.int .i64 0), (.string ⟨#[97]⟩), (.int .i64 1), (.int .i64 2), (.string ⟨#[]⟩)] base58_2 (by decide) (by decide) [(0, .agg #[(.int .i64 2), (.int .i64 0), (.string ⟨#[97]⟩)]), (1, .agg #[(.int .i64 1), (.int .i64 2), (.string ⟨#[]⟩)])] (by kernel_rfl) (by kernel_rfl) ?_
        refine hK.out _ _ (HALL _ (bW.trans (nX.mono bW.size))) (fun hHeld => ?_)
        clear hK K
        try simp only [puts, gets]
        refine any_take (by kernel_rfl) (i := 9) (oi := _) (v := ?_) rfl rfl (by kernel_rfl) (by kernel_rfl) (by kernel_rfl) (fun _ _ _ h => h) (Or.inl ⟨by rfl, ?_⟩) hHeld ?_
        rotate_left
        · intro w' hSw; try dsimp only at hSw
          go_simp
          try with_reducible rfl
        try simp only [puts, gets]
        exact M01_3 _ _ _ _ ⟨rfl, rfl, _, _, _, _, _, rfl, v0.keep nX, hX, s0.keep nX, s1.keep nX, s2.keep nX, bW.trans (nX.mono bW.size)⟩
      · have nX := below_new w (.cells #[(.int .i64 2), (.int .i64 0), (.string ⟨#[98]⟩), (.int .i64 1), (.int .i64 1), (.string ⟨#[]⟩)] 58)
        have hX : IsVals (w.alloc (.cells #[(.int .i64 2), (.int .i64 0), (.string ⟨#[98]⟩), (.int .i64 1), (.int .i64 1), (.string ⟨#[]⟩)] 58)) (.slice (some ⟨w.heap.size, 0, none⟩) 2 2) tB1 := IsRows.lit w tB1 encsV (by decide)
        refine step_lit fitsV (by kernel_rfl) _ rfl _ rfl _ #[(.int .i64 2), (.int .i64 0), (.string ⟨#[98]⟩), (.int .i64 1), (.int .i64 1), (.string ⟨#[]⟩)] base58_2 (by decide) (by decide) [(0, .agg #[(.int .i64 2), (.int .i64 0), (.string ⟨#[98]⟩)]), (1, .agg #[(.int .i64 1), (.int .i64 1), (.string ⟨#[]⟩)])] (by kernel_rfl) (by kernel_rfl) ?_
        refine hK.out _ _ (HALL _ (bW.trans (nX.mono bW.size))) (fun hHeld => ?_)
        clear hK K
        try simp only [puts, gets]
        refine any_take (by kernel_rfl) (i := 14) (oi := _) (v := ?_) rfl rfl (by kernel_rfl) (by kernel_rfl) (by kernel_rfl) (fun _ _ _ h => h) (Or.inl ⟨by rfl, ?_⟩) hHeld ?_
        rotate_left
        · intro w' hSw; try dsimp only at hSw
          go_simp
          try with_reducible rfl
        try simp only [puts, gets]
        exact M02_3 _ _ _ _ ⟨rfl, rfl, _, _, _, _, _, rfl, v0.keep nX, hX, s0.keep nX, s1.keep nX, s2.keep nX, bW.trans (nX.mono bW.size)⟩
  refine any_merge (fun f d a w => f = 6 ∧ d = #[true, true, false, true, false, true, true, true, true, true, true, true, false, true, false, false, false] ∧ ∃ (p1 : Option Addr) (q0 : Option Addr) (q1 : Option Addr) (q2 : Option Addr), a = ⟨#[(.bool false), (.pointer (some ⟨g1, 0, none⟩)), (.pointer (some ⟨g2, 0, none⟩)), (.pointer (some ⟨g3, 0, none⟩)), (.pointer (some ⟨g4, 0, none⟩)), undef, undef, undef, undef, undef, undef, undef, undef, (.agg #[.int .i64 2, .int .i64 0, .string ⟨#[97]⟩]), (.agg #[.int .i64 2, .int .i64 0, .string ⟨#[98]⟩]), (.agg #[.int .i64 1, .int .i64 1, .string ⟨#[]⟩]), (.agg #[.int .i64 1, .int .i64 2, .string ⟨#[]⟩]), (.agg #[.int .i64 2, .int .i64 0, .string ⟨#[97]⟩]), (.agg #[.int .i64 1, .int .i64 1, .string ⟨#[]⟩]), undef, (.slice q0 1 1), undef, (.agg #[.int .i64 2, .int .i64 0, .string ⟨#[97]⟩]), (.agg #[.int .i64 1, .int .i64 2, .string ⟨#[]⟩]), (.slice p1 2 2), (.slice q1 1 1), (.agg #[.slice p1 2 2, .slice q1 1 1]), (.agg #[.int .i64 2, .int .i64 0, .string ⟨#[98]⟩]), (.agg #[.int .i64 1, .int .i64 1, .string ⟨#[]⟩]), undef, (.slice q2 1 1), undef, undef, undef, undef, undef, undef, undef, undef, undef, undef, undef, undef, undef, undef, undef, undef, undef, undef, undef, undef, undef, undef, undef, undef, undef, undef, undef, undef, undef, undef, undef, undef, undef, undef, undef, undef, undef, undef, undef, undef, undef, undef, undef, undef, undef, undef, undef, undef, undef, undef, undef, undef, undef, undef, undef, undef, undef, undef, undef, undef, undef, undef, undef, undef, undef, undef, undef, undef, undef, undef, undef, undef, undef, undef, undef, undef, undef, undef, undef, undef, undef, undef, undef, undef, undef, undef, undef, undef, undef, undef, undef, undef, undef, undef, undef, undef, undef, undef, undef, undef, undef, undef, undef, undef, undef, undef, undef, undef, undef, undef, undef, undef, undef, undef, undef, undef, undef, undef, undef, undef, undef, undef, undef, undef, undef, undef, undef, undef, undef, undef, undef, undef, undef, undef, undef, undef, undef, undef, undef, undef, undef, undef, undef, undef, undef, undef, undef, undef, undef, undef, undef, undef, undef, undef, undef, undef, undef, undef, undef, undef, undef, undef, undef, undef], []⟩ ∧ IsVals w (.slice p1 2 2) tA2 ∧ IsSpans w (.slice q0 1 1) [(0, 5)] ∧ IsSpans w (.slice q1 1 1) [(0, 5)] ∧ IsSpans w (.slice q2 1 1) [(0, 5)] ∧ Below w4.heap.size w4 w) ?mM1_3 (fun M1_3 => ?_)
  case mM1_3 =>
    rintro f d a w ⟨rfl, rfl, p1, q0, q1, q2, rfl, v1, s0, s1, s2, bW⟩
    as_aux_lemma =>
      have hHeld := HALL _ bW
      refine any_two (i := 2) (j := 12) (by kernel_rfl) rfl rfl rfl rfl (fun K hK => ?_) (fun K hK => ?_)
      · have nX := below_new w (.cells #[(.int .i64 2), (.int .i64 0), (.string ⟨#[97]⟩), (.int .i64 1), (.int .i64 1), (.string ⟨#[]⟩)] 58)
        have hX : IsVals (w.alloc (.cells #[(.int .i64 2), (.int .i64 0), (.string ⟨#[97]⟩), (.int .i64 1), (.int .i64 1), (.string ⟨#[]⟩)] 58)) (.slice (some ⟨w.heap.size, 0, none⟩) 2 2) tA1 := IsRows.lit w tA1 encsV (by decide)
        refine step_lit fitsV (by kernel_rfl) _ rfl _ rfl _ #[(.int .i64 2), (.int .i64 0), (.string ⟨#[97]⟩), (.int .i64 1), (.int .i64 1), (.string ⟨#[]⟩)] base58_2 (by decide) (by decide) [(0, .agg #[(.int .i64 2), (.int .i64 0), (.string ⟨#[97]⟩)]), (1, .agg #[(.int .i64 1), (.int .i64 1), (.string ⟨#[]⟩)])] (by kernel_rfl) (by kernel_rfl) ?_
        refine hK.out _ _ (HALL _ (bW.trans (nX.mono bW.size))) (fun hHeld => ?_)
        clear hK K
        try simp only [puts, gets]
        refine any_take (by kernel_rfl) (i := 4) (oi := _) (v := ?_) rfl rfl (by kernel_rfl) (by kernel_rfl) (by kernel_rfl) (fun _ _ _ h => h) (Or.inl ⟨by rfl, ?_⟩) hHeld ?_
        rotate_left
        · intro w' hSw; try dsimp only at hSw
          go_simp
          try with_reducible rfl
        try simp only [puts, gets]
        exact M01_3 _ _ _ _ ⟨rfl, rfl, _, _, _, _, _, rfl, hX, v1.keep nX, s0.keep nX, s1.keep nX, s2.keep nX, bW.trans (nX.mono bW.size)⟩
      · have nX := below_new w (.cells #[(.int .i64 2), (.int .i64 0), (.string ⟨#[98]⟩), (.int .i64 1), (.int .i64 1), (.string ⟨#[]⟩)] 58)
        have hX : IsVals (w.alloc (.cells #[(.int .i64 2), (.int .i64 0), (.string ⟨#[98]⟩), (.int .i64 1), (.int .i64 1), (.string ⟨#[]⟩)] 58)) (.slice (some ⟨w.heap.size, 0, none⟩) 2 2) tB1 := IsRows.lit w tB1 encsV (by decide)
        refine step_lit fitsV (by kernel_rfl) _ rfl _ rfl _ #[(.int .i64 2), (.int .i64 0), (.string ⟨#[98]⟩), (.int .i64 1), (.int .i64 1), (.string ⟨#[]⟩)] base58_2 (by decide) (by decide) [(0, .agg #[(.int .i64 2), (.int .i64 0), (.string ⟨#[98]⟩)]), (1, .agg #[(.int .i64 1), (.int .i64 1), (.string ⟨#[]⟩)])] (by kernel_rfl) (by kernel_rfl) ?_
        refine hK.out _ _ (HALL _ (bW.trans (nX.mono bW.size))) (fun hHeld => ?_)
        clear hK K
        try simp only [puts, gets]
        refine any_take (by kernel_rfl) (i := 14) (oi := _) (v := ?_) rfl rfl (by kernel_rfl) (by kernel_rfl) (by kernel_rfl) (fun _ _ _ h => h) (Or.inl ⟨by rfl, ?_⟩) hHeld ?_
        rotate_left
        · intro w' hSw; try dsimp only at hSw
          go_simp
          try with_reducible rfl
        try simp only [puts, gets]
        exact M12_3 _ _ _ _ ⟨rfl, rfl, _, _, _, _, _, rfl, v1.keep nX, hX, s0.keep nX, s1.keep nX, s2.keep nX, bW.trans (nX.mono bW.size)⟩
  refine any_merge (fun f d a w => f = 6 ∧ d = #[true, true, false, true, false, true, true, false, true, false, true, true, true, true, true, false, false] ∧ ∃ (p2 : Option Addr) (q0 : Option Addr) (q1 : Option Addr) (q2 : Option Addr), a = ⟨#[(.bool false), (.pointer (some ⟨g1, 0, none⟩)), (.pointer (some ⟨g2, 0, none⟩)), (.pointer (some ⟨g3, 0, none⟩)), (.pointer (some ⟨g4, 0, none⟩)), undef, undef, undef, undef, undef, undef, undef, undef, (.agg #[.int .i64 2, .int .i64 0, .string ⟨#[97]⟩]), (.agg #[.int .i64 2, .int .i64 0, .string ⟨#[98]⟩]), (.agg #[.int .i64 1, .int .i64 1, .string ⟨#[]⟩]), (.agg #[.int .i64 1, .int .i64 2, .string ⟨#[]⟩]), (.agg #[.int .i64 2, .int .i64 0, .string ⟨#[97]⟩]), (.agg #[.int .i64 1, .int .i64 1, .string ⟨#[]⟩]), undef, (.slice q0 1 1), undef, (.agg #[.int .i64 2, .int .i64 0, .string ⟨#[97]⟩]), (.agg #[.int .i64 1, .int .i64 2, .string ⟨#[]⟩]), undef, (.slice q1 1 1), undef, (.agg #[.int .i64 2, .int .i64 0, .string ⟨#[98]⟩]), (.agg #[.int .i64 1, .int .i64 1, .string ⟨#[]⟩]), (.slice p2 2 2), (.slice q2 1 1), (.agg #[.slice p2 2 2, .slice q2 1 1]), undef, undef, undef, undef, undef, undef, undef, undef, undef, undef, undef, undef, undef, undef, undef, undef, undef, undef, undef, undef, undef, undef, undef, undef, undef, undef, undef, undef, undef, undef, undef, undef, undef, undef, undef, undef, undef, undef, undef, undef, undef, undef, undef, undef, undef, undef, undef, undef, undef, undef, undef, undef, undef, undef, undef, undef, undef, undef, undef, undef, undef, undef, undef, undef, undef, undef, undef, undef, undef, undef, undef, undef, undef, undef, undef, undef, undef, undef, undef, undef, undef, undef, undef, undef, undef, undef, undef, undef, undef, undef, undef, undef, undef, undef, undef, undef, undef, undef, undef, undef, undef, undef, undef, undef, undef, undef, undef, undef, undef, undef, undef, undef, undef, undef, undef, undef, undef, undef, undef, undef, undef, undef, undef, undef, undef, undef, undef, undef, undef, undef, undef, undef, undef, undef, undef, undef, undef, undef, undef, undef, undef, undef, undef, undef, undef, undef, undef, undef, undef, undef, undef, undef, undef, undef, undef, undef, undef, undef, undef, undef, undef, undef, undef], []⟩ ∧ IsVals w (.slice p2 2 2) tB1 ∧ IsSpans w (.slice q0 1 1) [(0, 5)] ∧ IsSpans w (.slice q1 1 1) [(0, 5)] ∧ IsSpans w (.slice q2 1 1) [(0, 5)] ∧ Below w4.heap.size w4 w) ?mM2_3 (fun M2_3 => ?_)
  case mM2_3 =>
    rintro f d a w ⟨rfl, rfl, p2, q0, q1, q2, rfl, v2, s0, s1, s2, bW⟩
    as_aux_lemma =>
      have hHeld := HALL _ bW
      refine any_two (i := 2) (j := 7) (by kernel_rfl) rfl rfl rfl rfl (fun K hK => ?_) (fun K hK => ?_)
      · have nX := below_new w (.cells #[(.int .i64 2), (.int .i64 0), (.string ⟨#[97]⟩), (.int .i64 1), (.int .i64 1), (.string ⟨#[]⟩)] 58)
        have hX : IsVals (w.alloc (.cells #[(.int .i64 2), (.int .i64 0), (.string ⟨#[97]⟩), (.int .i64 1), (.int .i64 1), (.string ⟨#[]⟩)] 58)) (.slice (some ⟨w.heap.size, 0, none⟩) 2 2) tA1 := IsRows.lit w tA1 encsV (by decide)
        refine step_lit fitsV (by kernel_rfl) _ rfl _ rfl _ #[(.int .i64 2), (.int .i64 0), (.string ⟨#[97]⟩), (.int .i64 1), (.int .i64 1), (.string ⟨#[]⟩)] base58_2 (by decide) (by decide) [(0, .agg #[(.int .i64 2), (.int .i64 0), (.string ⟨#[97]⟩)]), (1, .agg #[(.int .i64 1), (.int .i64 1), (.string ⟨#[]⟩)])] (by kernel_rfl) (by kernel_rfl) ?_
        refine hK.out _ _ (HALL _ (bW.trans (nX.mono bW.size))) (fun hHeld => ?_)
        clear hK K
        try simp only [puts, gets]
        refine any_take (by kernel_rfl) (i := 4) (oi := _) (v := ?_) rfl rfl (by kernel_rfl) (by kernel_rfl) (by kernel_rfl) (fun _ _ _ h => h) (Or.inl ⟨by rfl, ?_⟩) hHeld ?_
        rotate_left
        · intro w' hSw; try dsimp only at hSw
          go_simp
          try with_reducible rfl
        try simp only [puts, gets]
        exact M02_3 _ _ _ _ ⟨rfl, rfl, _, _, _, _, _, rfl, hX, v2.keep nX, s0.keep nX, s1.keep nX, s2.keep nX, bW.trans (nX.mono bW.size)⟩
      · have nX := below_new w (.cells #[(.int .i64 2), (.int .i64 0), (.string ⟨#[97]⟩), (.int .i64 1), (.int .i64 2), (.string ⟨#[]⟩)] 58)
        have hX : IsVals (w.alloc (.cells #[(.int .i64 2), (.int .i64 0), (.string ⟨#[97]⟩), (.int .i64 1), (.int .i64 2), (.string ⟨#[]⟩)] 58)) (.slice (some ⟨w.heap.size, 0, none⟩) 2 2) tA2 := IsRows.lit w tA2 encsV (by decide)
        refine step_lit fitsV (by kernel_rfl) _ rfl _ rfl _ #[(.int .i64 2), (.int .i64 0), (.string ⟨#[97]⟩), (.int .i64 1), (.int .i64 2), (.string ⟨#[]⟩)] base58_2 (by decide) (by decide) [(0, .agg #[(.int .i64 2), (.int .i64 0), (.string ⟨#[97]⟩)]), (1, .agg #[(.int .i64 1), (.int .i64 2), (.string ⟨#[]⟩)])] (by kernel_rfl) (by kernel_rfl) ?_
        refine hK.out _ _ (HALL _ (bW.trans (nX.mono bW.size))) (fun hHeld => ?_)
        clear hK K
        try simp only [puts, gets]
        refine any_take (by kernel_rfl) (i := 9) (oi := _) (v := ?_) rfl rfl (by kernel_rfl) (by kernel_rfl) (by kernel_rfl) (fun _ _ _ h => h) (Or.inl ⟨by rfl, ?_⟩) hHeld ?_
        rotate_left
        · intro w' hSw; try dsimp only at hSw
          go_simp
          try with_reducible rfl
        try simp only [puts, gets]
        exact M12_3 _ _ _ _ ⟨rfl, rfl, _, _, _, _, _, rfl, hX, v2.keep nX, s0.keep nX, s1.keep nX, s2.keep nX, bW.trans (nX.mono bW.size)⟩
  refine any_merge (fun f d a w => f = 5 ∧ d = #[true, true, true, true, true, true, true, true, true, true, true, true, false, false, false, false, false] ∧ ∃ (p0 : Option Addr) (p1 : Option Addr) (q0 : Option Addr) (q1 : Option Addr), a = ⟨#[(.bool false), (.pointer (some ⟨g1, 0, none⟩)), (.pointer (some ⟨g2, 0, none⟩)), (.pointer (some ⟨g3, 0, none⟩)), (.pointer (some ⟨g4, 0, none⟩)), undef, undef, undef, undef, undef, undef, undef, undef, (.agg #[.int .i64 2, .int .i64 0, .string ⟨#[97]⟩]), (.agg #[.int .i64 2, .int .i64 0, .string ⟨#[98]⟩]), (.agg #[.int .i64 1, .int .i64 1, .string ⟨#[]⟩]), (.agg #[.int .i64 1, .int .i64 2, .string ⟨#[]⟩]), (.agg #[.int .i64 2, .int .i64 0, .string ⟨#[97]⟩]), (.agg #[.int .i64 1, .int .i64 1, .string ⟨#[]⟩]), (.slice p0 2 2), (.slice q0 1 1), (.agg #[.slice p0 2 2, .slice q0 1 1]), (.agg #[.int .i64 2, .int .i64 0, .string ⟨#[97]⟩]), (.agg #[.int .i64 1, .int .i64 2, .string ⟨#[]⟩]), (.slice p1 2 2), (.slice q1 1 1), (.agg #[.slice p1 2 2, .slice q1 1 1]), (.agg #[.int .i64 2, .int .i64 0, .string ⟨#[98]⟩]), (.agg #[.int .i64 1, .int .i64 1, .string ⟨#[]⟩]), undef, undef, undef, undef, undef, undef, undef, undef, undef, undef, undef, undef, undef, undef, undef, undef, undef, undef, undef, undef, undef, undef, undef, undef, undef, undef, undef, undef, undef, undef, undef, undef, undef, undef, undef, undef, undef, undef, undef, undef, undef, undef, undef, undef, undef, undef, undef, undef, undef, undef, undef, undef, undef, undef, undef, undef, undef, undef, undef, undef, undef, undef, undef, undef, undef, undef, undef, undef, undef, undef, undef, undef, undef, undef, undef, undef, undef, undef, undef, undef, undef, undef, undef, undef, undef, undef, undef, undef, undef, undef, undef, undef, undef, undef, undef, undef, undef, undef, undef, undef, undef, undef, undef, undef, undef, undef, undef, undef, undef, undef, undef, undef, undef, undef, undef, undef, undef, undef, undef, undef, undef, undef, undef, undef, undef, undef, undef, undef, undef, undef, undef, undef, undef, undef, undef, undef, undef, undef, undef, undef, undef, undef, undef, undef, undef, undef, undef, undef, undef, undef, undef, undef, undef, undef, undef, undef, undef, undef, undef, undef, undef, undef, undef, undef, undef, undef], []⟩ ∧ IsVals w (.slice p0 2 2) tA1 ∧ IsVals w (.slice p1 2 2) tA2 ∧ IsSpans w (.slice q0 1 1) [(0, 5)] ∧ IsSpans w (.slice q1 1 1) [(0, 5)] ∧ Below w4.heap.size w4 w) ?mM01_2 (fun M01_2 => ?_)
  case mM01_2 =>
    rintro f d a w ⟨rfl, rfl, p0, p1, q0, q1, rfl, v0, v1, s0, s1, bW⟩
    as_aux_lemma =>
      have hHeld := HALL _ bW
      refine any_two (i := 12) (j := 13) (by kernel_rfl) rfl rfl rfl rfl (fun K hK => ?_) (fun K hK => ?_)
      · have nX := below_new w (.cells #[(.int .i64 2), (.int .i64 0), (.string ⟨#[98]⟩), (.int .i64 1), (.int .i64 1), (.string ⟨#[]⟩)] 58)
        have hX : IsVals (w.alloc (.cells #[(.int .i64 2), (.int .i64 0), (.string ⟨#[98]⟩), (.int .i64 1), (.int .i64 1), (.string ⟨#[]⟩)] 58)) (.slice (some ⟨w.heap.size, 0, none⟩) 2 2) tB1 := IsRows.lit w tB1 encsV (by decide)
        refine step_lit fitsV (by kernel_rfl) _ rfl _ rfl _ #[(.int .i64 2), (.int .i64 0), (.string ⟨#[98]⟩), (.int .i64 1), (.int .i64 1), (.string ⟨#[]⟩)] base58_2 (by decide) (by decide) [(0, .agg #[(.int .i64 2), (.int .i64 0), (.string ⟨#[98]⟩)]), (1, .agg #[(.int .i64 1), (.int .i64 1), (.string ⟨#[]⟩)])] (by kernel_rfl) (by kernel_rfl) ?_
        refine hK.out _ _ (HALL _ (bW.trans (nX.mono bW.size))) (fun hHeld => ?_)
        clear hK K
        try simp only [puts, gets]
        exact M012_2 _ _ _ _ ⟨rfl, rfl, _, _, _, _, _, rfl, v0.keep nX, v1.keep nX, hX, s0.keep nX, s1.keep nX, bW.trans (nX.mono bW.size)⟩
      · have nX := below_new w (.cells #[.int .i64 0, .int .i64 5] 86)
        have hX : IsSpans (w.alloc (.cells #[.int .i64 0, .int .i64 5] 86)) (.slice (some ⟨w.heap.size, 0, none⟩) 1 1) [(0, 5)] := IsSpans.of_rows (IsRows.lit w [(0, 5)] encsS (by decide))
        go_simp
        go_at_call 100
        refine (five_any _).mono ?_
        rintro e wY ⟨rfl, rfl⟩
        refine hK.out _ _ (HALL _ (bW.trans (nX.mono bW.size))) (fun hHeld => ?_)
        clear hK K
        try simp only [puts, gets]
        exact M01_3 _ _ _ _ ⟨rfl, rfl, _, _, _, _, _, rfl, v0.keep nX, v1.keep nX, s0.keep nX, s1.keep nX, hX, bW.trans (nX.mono bW.size)⟩
  refine any_merge (fun f d a w => f = 6 ∧ d = #[true, true, true, true, true, true, true, false, true, false, true, true, true, false, false, false, false] ∧ ∃ (p0 : Option Addr) (p2 : Option Addr) (q0 : Option Addr) (q1 : Option Addr), a = ⟨#[(.bool false), (.pointer (some ⟨g1, 0, none⟩)), (.pointer (some ⟨g2, 0, none⟩)), (.pointer (some ⟨g3, 0, none⟩)), (.pointer (some ⟨g4, 0, none⟩)), undef, undef, undef, undef, undef, undef, undef, undef, (.agg #[.int .i64 2, .int .i64 0, .string ⟨#[97]⟩]), (.agg #[.int .i64 2, .int .i64 0, .string ⟨#[98]⟩]), (.agg #[.int .i64 1, .int .i64 1, .string ⟨#[]⟩]), (.agg #[.int .i64 1, .int .i64 2, .string ⟨#[]⟩]), (.agg #[.int .i64 2, .int .i64 0, .string ⟨#[97]⟩]), (.agg #[.int .i64 1, .int .i64 1, .string ⟨#[]⟩]), (.slice p0 2 2), (.slice q0 1 1), (.agg #[.slice p0 2 2, .slice q0 1 1]), (.agg #[.int .i64 2, .int .i64 0, .string ⟨#[97]⟩]), (.agg #[.int .i64 1, .int .i64 2, .string ⟨#[]⟩]), undef, (.slice q1 1 1), undef, (.agg #[.int .i64 2, .int .i64 0, .string ⟨#[98]⟩]), (.agg #[.int .i64 1, .int .i64 1, .string ⟨#[]⟩]), (.slice p2 2 2), undef, undef, undef, undef, undef, undef, undef, undef, undef, undef, undef, undef, undef, undef, undef, undef, undef, undef, undef, undef, undef, undef, undef, undef, undef, undef, undef, undef, undef, undef, undef, undef, undef, undef, undef, undef, undef, undef, undef, undef, undef, undef, undef, undef, undef, undef, undef, undef, undef, undef, undef, undef, undef, undef, undef, undef, undef, undef, undef, undef, undef, undef, undef, undef, undef, undef, undef, undef, undef, undef, undef, undef, undef, undef, undef, undef, undef, undef, undef, undef, undef, undef, undef, undef, undef, undef, undef, undef, undef, undef, undef, undef, undef, undef, undef, undef, undef, undef, undef, undef, undef, undef, undef, undef, undef, undef, undef, undef, undef, undef, undef, undef, undef, undef, undef, undef, undef, undef, undef, undef, undef, undef, undef, undef, undef, undef, undef, undef, undef, undef, undef, undef, undef, undef, undef, undef, undef, undef, undef, undef, undef, undef, undef, undef, undef, undef, undef, undef, undef, undef, undef, undef, undef, undef, undef, undef, undef, undef, undef, undef, undef, undef, undef, undef, undef], []⟩ ∧ IsVals w (.slice p0 2 2) tA1 ∧ IsVals w (.slice p2 2 2) tB1 ∧ IsSpans w (.slice q0 1 1) [(0, 5)] ∧ IsSpans w (.slice q1 1 1) [(0, 5)] ∧ Below w4.heap.size w4 w) ?mM02_2 (fun M02_2 => ?_)
  case mM02_2 =>
    rintro f d a w ⟨rfl, rfl, p0, p2, q0, q1, rfl, v0, v2, s0, s1, bW⟩
    as_aux_lemma =>
      have hHeld := HALL _ bW
      refine any_two (i := 7) (j := 13) (by kernel_rfl) rfl rfl rfl rfl (fun K hK => ?_) (fun K hK => ?_)
      · have nX := below_new w (.cells #[(.int .i64 2), (.int .i64 0), (.string ⟨#[97]⟩), (.int .i64 1), (.int .i64 2), (.string ⟨#[]⟩)] 58)
        have hX : IsVals (w.alloc (.cells #[(.int .i64 2), (.int .i64 0), (.string ⟨#[97]⟩), (.int .i64 1), (.int .i64 2), (.string ⟨#[]⟩)] 58)) (.slice (some ⟨w.heap.size, 0, none⟩) 2 2) tA2 := IsRows.lit w tA2 encsV (by decide)
        refine step_lit fitsV (by kernel_rfl) _ rfl _ rfl _ #[(.int .i64 2), (.int .i64 0), (.string ⟨#[97]⟩), (.int .i64 1), (.int .i64 2), (.string ⟨#[]⟩)] base58_2 (by decide) (by decide) [(0, .agg #[(.int .i64 2), (.int .i64 0), (.string ⟨#[97]⟩)]), (1, .agg #[(.int .i64 1), (.int .i64 2), (.string ⟨#[]⟩)])] (by kernel_rfl) (by kernel_rfl) ?_
        refine hK.out _ _ (HALL _ (bW.trans (nX.mono bW.size))) (fun hHeld => ?_)
        clear hK K
        try simp only [puts, gets]
        refine any_take (by kernel_rfl) (i := 9) (oi := _) (v := ?_) rfl rfl (by kernel_rfl) (by kernel_rfl) (by kernel_rfl) (fun _ _ _ h => h) (Or.inl ⟨by rfl, ?_⟩) hHeld ?_
        rotate_left
        · intro w' hSw; try dsimp only at hSw
          go_simp
          try with_reducible rfl
        try simp only [puts, gets]
        exact M012_2 _ _ _ _ ⟨rfl, rfl, _, _, _, _, _, rfl, v0.keep nX, hX, v2.keep nX, s0.keep nX, s1.keep nX, bW.trans (nX.mono bW.size)⟩
      · have nX := below_new w (.cells #[.int .i64 0, .int .i64 5] 86)
        have hX : IsSpans (w.alloc (.cells #[.int .i64 0, .int .i64 5] 86)) (.slice (some ⟨w.heap.size, 0, none⟩) 1 1) [(0, 5)] := IsSpans.of_rows (IsRows.lit w [(0, 5)] encsS (by decide))
        go_simp
        go_at_call 100
        refine (five_any _).mono ?_
        rintro e wY ⟨rfl, rfl⟩
        refine hK.out _ _ (HALL _ (bW.trans (nX.mono bW.size))) (fun hHeld => ?_)
        clear hK K
        try simp only [puts, gets]
        refine any_take (by kernel_rfl) (i := 14) (oi := _) (v := ?_) rfl rfl (by kernel_rfl) (by kernel_rfl) (by kernel_rfl) (fun _ _ _ h => h) (Or.inl ⟨by rfl, ?_⟩) hHeld ?_
        rotate_left
        · intro w' hSw; try dsimp only at hSw
          go_simp
          try with_reducible rfl
        try simp only [puts, gets]
        exact M02_3 _ _ _ _ ⟨rfl, rfl, _, _, _, _, _, rfl, v0.keep nX, v2.keep nX, s0.keep nX, s1.keep nX, hX, bW.trans (nX.mono bW.size)⟩
  refine any_merge (fun f d a w => f = 6 ∧ d = #[true, true, false, true, false, true, true, true, true, true, true, true, true, false, false, false, false] ∧ ∃ (p1 : Option Addr) (p2 : Option Addr) (q0 : Option Addr) (q1 : Option Addr), a = ⟨#[(.bool false), (.pointer (some ⟨g1, 0, none⟩)), (.pointer (some ⟨g2, 0, none⟩)), (.pointer (some ⟨g3, 0, none⟩)), (.pointer (some ⟨g4, 0, none⟩)), undef, undef, undef, undef, undef, undef, undef, undef, (.agg #[.int .i64 2, .int .i64 0, .string ⟨#[97]⟩]), (.agg #[.int .i64 2, .int .i64 0, .string ⟨#[98]⟩]), (.agg #[.int .i64 1, .int .i64 1, .string ⟨#[]⟩]), (.agg #[.int .i64 1, .int .i64 2, .string ⟨#[]⟩]), (.agg #[.int .i64 2, .int .i64 0, .string ⟨#[97]⟩]), (.agg #[.int .i64 1, .int .i64 1, .string ⟨#[]⟩]), undef, (.slice q0 1 1), undef, (.agg #[.int .i64 2, .int .i64 0, .string ⟨#[97]⟩]), (.agg #[.int .i64 1, .int .i64 2, .string ⟨#[]⟩]), (.slice p1 2 2), (.slice q1 1 1), (.agg #[.slice p1 2 2, .slice q1 1 1]), (.agg #[.int .i64 2, .int .i64 0, .string ⟨#[98]⟩]), (.agg #[.int .i64 1, .int .i64 1, .string ⟨#[]⟩]), (.slice p2 2 2), undef, undef, undef, undef, undef, undef, undef, undef, undef, undef, undef, undef, undef, undef, undef, undef, undef, undef, undef, undef, undef, undef, undef, undef, undef, undef, undef, undef, undef, undef, undef, undef, undef, undef, undef, undef, undef, undef, undef, undef, undef, undef, undef, undef, undef, undef, undef, undef, undef, undef, undef, undef, undef, undef, undef, undef, undef, undef, undef, undef, undef, undef, undef, undef, undef, undef, undef, undef, undef, undef, undef, undef, undef, undef, undef, undef, undef, undef, undef, undef, undef, undef, undef, undef, undef, undef, undef, undef, undef, undef, undef, undef, undef, undef, undef, undef, undef, undef, undef, undef, undef, undef, undef, undef, undef, undef, undef, undef, undef, undef, undef, undef, undef, undef, undef, undef, undef, undef, undef, undef, undef, undef, undef, undef, undef, undef, undef, undef, undef, undef, undef, undef, undef, undef, undef, undef, undef, undef, undef, undef, undef, undef, undef, undef, undef, undef, undef, undef, undef, undef, undef, undef, undef, undef, undef, undef, undef, undef, undef, undef, undef, undef, undef, undef, undef], []⟩ ∧ IsVals w (.slice p1 2 2) tA2 ∧ IsVals w (.slice p2 2 2) tB1 ∧ IsSpans w (.slice q0 1 1) [(0, 5)] ∧ IsSpans w (.slice q1 1 1) [(0, 5)] ∧ Below w4.heap.size w4 w) ?mM12_2 (fun M12_2 => ?_)
  case mM12_2 =>
    rintro f d a w ⟨rfl, rfl, p1, p2, q0, q1, rfl, v1, v2, s0, s1, bW⟩
    as_aux_lemma =>
      have hHeld := HALL _ bW
      refine any_two (i := 2) (j := 13) (by kernel_rfl) rfl rfl rfl rfl (fun K hK => ?_) (fun K hK => ?_)
      · have nX := below_new w (.cells #[(.int .i64 2), (.int .i64 0), (.string ⟨#[97]⟩), (.int .i64 1), (.int .i64 1), (.string ⟨#[]⟩)] 58)
        have hX : IsVals (w.alloc (.cells #[(.int .i64 2), (.int .i64 0), (.string ⟨#[97]⟩), (.int .i64 1), (.int .i64 1), (.string ⟨#[]⟩)] 58)) (.slice (some ⟨w.heap.size, 0, none⟩) 2 2) tA1 := IsRows.lit w tA1 encsV (by decide)
        refine step_lit fitsV (by kernel_rfl) _ rfl _ rfl _ #[(.int .i64 2), (.int .i64 0), (.string ⟨#[97]⟩), (.int .i64 1), (.int .i64 1), (.string ⟨#[]⟩)] base58_2 (by decide) (by decide) [(0, .agg #[(.int .i64 2), (.int .i64 0), (.string ⟨#[97]⟩)]), (1, .agg #[(.int .i64 1), (.int .i64 1), (.string ⟨#[]⟩)])] (by kernel_rfl) (by kernel_rfl) ?_
        refine hK.out _ _ (HALL _ (bW.trans (nX.mono bW.size))) (fun hHeld => ?_)
        clear hK K
        try simp only [puts, gets]
        refine any_take (by kernel_rfl) (i := 4) (oi := _) (v := ?_) rfl rfl (by kernel_rfl) (by kernel_rfl) (by kernel_rfl) (fun _ _ _ h => h) (Or.inl ⟨by rfl, ?_⟩) hHeld ?_
        rotate_left
        · intro w' hSw; try dsimp only at hSw
          go_simp
          try with_reducible rfl
        try simp only [puts, gets]
        exact M012_2 _ _ _ _ ⟨rfl, rfl, _, _, _, _, _, rfl, hX, v1.keep nX, v2.keep nX, s0.keep nX, s1.keep nX, bW.trans (nX.mono bW.size)⟩
      · have nX := below_new w (.cells #[.int .i64 0, .int .i64 5] 86)
        have hX : IsSpans (w.alloc (.cells #[.int .i64 0, .int .i64 5] 86)) (.slice (some ⟨w.heap.size, 0, none⟩) 1 1) [(0, 5)] := IsSpans.of_rows (IsRows.lit w [(0, 5)] encsS (by decide))
        go_simp
        go_at_call 100
        refine (five_any _).mono ?_
        rintro e wY ⟨rfl, rfl⟩
        refine hK.out _ _ (HALL _ (bW.trans (nX.mono bW.size))) (fun hHeld => ?_)
        clear hK K
        try simp only [puts, gets]
        refine any_take (by kernel_rfl) (i := 14) (oi := _) (v := ?_) rfl rfl (by kernel_rfl) (by kernel_rfl) (by kernel_rfl) (fun _ _ _ h => h) (Or.inl ⟨by rfl, ?_⟩) hHeld ?_
        rotate_left
        · intro w' hSw; try dsimp only at hSw
          go_simp
          try with_reducible rfl
        try simp only [puts, gets]
        exact M12_3 _ _ _ _ ⟨rfl, rfl, _, _, _, _, _, rfl, v1.keep nX, v2.keep nX, s0.keep nX, s1.keep nX, hX, bW.trans (nX.mono bW.size)⟩
  refine any_merge (fun f d a w => f = 6 ∧ d = #[true, true, true, true, true, true, true, true, false, false, true, true, true, false, false, false, false] ∧ ∃ (p0 : Option Addr) (p1 : Option Addr) (p2 : Option Addr) (q0 : Option Addr), a = ⟨#[(.bool false), (.pointer (some ⟨g1, 0, none⟩)), (.pointer (some ⟨g2, 0, none⟩)), (.pointer (some ⟨g3, 0, none⟩)), (.pointer (some ⟨g4, 0, none⟩)), undef, undef, undef, undef, undef, undef, undef, undef, (.agg #[.int .i64 2, .int .i64 0, .string ⟨#[97]⟩]), (.agg #[.int .i64 2, .int .i64 0, .string ⟨#[98]⟩]), (.agg #[.int .i64 1, .int .i64 1, .string ⟨#[]⟩]), (.agg #[.int .i64 1, .int .i64 2, .string ⟨#[]⟩]), (.agg #[.int .i64 2, .int .i64 0, .string ⟨#[97]⟩]), (.agg #[.int .i64 1, .int .i64 1, .string ⟨#[]⟩]), (.slice p0 2 2), (.slice q0 1 1), (.agg #[.slice p0 2 2, .slice q0 1 1]), (.agg #[.int .i64 2, .int .i64 0, .string ⟨#[97]⟩]), (.agg #[.int .i64 1, .int .i64 2, .string ⟨#[]⟩]), (.slice p1 2 2), undef, undef, (.agg #[.int .i64 2, .int .i64 0, .string ⟨#[98]⟩]), (.agg #[.int .i64 1, .int .i64 1, .string ⟨#[]⟩]), (.slice p2 2 2), undef, undef, undef, undef, undef, undef, undef, undef, undef, undef, undef, undef, undef, undef, undef, undef, undef, undef, undef, undef, undef, undef, undef, undef, undef, undef, undef, undef, undef, undef, undef, undef, undef, undef, undef, undef, undef, undef, undef, undef, undef, undef, undef, undef, undef, undef, undef, undef, undef, undef, undef, undef, undef, undef, undef, undef, undef, undef, undef, undef, undef, undef, undef, undef, undef, undef, undef, undef, undef, undef, undef, undef, undef, undef, undef, undef, undef, undef, undef, undef, undef, undef, undef, undef, undef, undef, undef, undef, undef, undef, undef, undef, undef, undef, undef, undef, undef, undef, undef, undef, undef, undef, undef, undef, undef, undef, undef, undef, undef, undef, undef, undef, undef, undef, undef, undef, undef, undef, undef, undef, undef, undef, undef, undef, undef, undef, undef, undef, undef, undef, undef, undef, undef, undef, undef, undef, undef, undef, undef, undef, undef, undef, undef, undef, undef, undef, undef, undef, undef, undef, undef, undef, undef, undef, undef, undef, undef, undef, undef, undef, undef, undef, undef, undef, undef], []⟩ ∧ IsVals w (.slice p0 2 2) tA1 ∧ IsVals w (.slice p1 2 2) tA2 ∧ IsVals w (.slice p2 2 2) tB1 ∧ IsSpans w (.slice q0 1 1) [(0, 5)] ∧ Below w4.heap.size w4 w) ?mM012_1 (fun M012_1 => ?_)
  case mM012_1 =>
    rintro f d a w ⟨rfl, rfl, p0, p1, p2, q0, rfl, v0, v1, v2, s0, bW⟩
    as_aux_lemma =>
      have hHeld := HALL _ bW
      refine any_next (i := 8) (by kernel_rfl) rfl rfl (fun K hK => ?_)
      have nX := below_new w (.cells #[.int .i64 0, .int .i64 5] 86)
      have hX : IsSpans (w.alloc (.cells #[.int .i64 0, .int .i64 5] 86)) (.slice (some ⟨w.heap.size, 0, none⟩) 1 1) [(0, 5)] := IsSpans.of_rows (IsRows.lit w [(0, 5)] encsS (by decide))
      go_simp
      go_at_call 100
      refine (five_any _).mono ?_
      rintro e wY ⟨rfl, rfl⟩
      refine hK.out _ _ (HALL _ (bW.trans (nX.mono bW.size))) (fun hHeld => ?_)
      clear hK K
      try simp only [puts, gets]
      refine any_take (by kernel_rfl) (i := 9) (oi := _) (v := ?_) rfl rfl (by kernel_rfl) (by kernel_rfl) (by kernel_rfl) (fun _ _ _ h => h) (Or.inl ⟨by rfl, ?_⟩) hHeld ?_
      rotate_left
      · intro w' hSw; try dsimp only at hSw
        go_simp
        try with_reducible rfl
      try simp only [puts, gets]
      exact M012_2 _ _ _ _ ⟨rfl, rfl, _, _, _, _, _, rfl, v0.keep nX, v1.keep nX, v2.keep nX, s0.keep nX, hX, bW.trans (nX.mono bW.size)⟩
  refine any_merge (fun f d a w => f = 8 ∧ d = #[true, true, false, true, false, true, true, false, true, false, true, true, false, true, false, false, false] ∧ ∃ (q0 : Option Addr) (q1 : Option Addr) (q2 : Option Addr), a = ⟨#[(.bool false), (.pointer (some ⟨g1, 0, none⟩)), (.pointer (some ⟨g2, 0, none⟩)), (.pointer (some ⟨g3, 0, none⟩)), (.pointer (some ⟨g4, 0, none⟩)), undef, undef, undef, undef, undef, undef, undef, undef, (.agg #[.int .i64 2, .int .i64 0, .string ⟨#[97]⟩]), (.agg #[.int .i64 2, .int .i64 0, .string ⟨#[98]⟩]), (.agg #[.int .i64 1, .int .i64 1, .string ⟨#[]⟩]), (.agg #[.int .i64 1, .int .i64 2, .string ⟨#[]⟩]), (.agg #[.int .i64 2, .int .i64 0, .string ⟨#[97]⟩]), (.agg #[.int .i64 1, .int .i64 1, .string ⟨#[]⟩]), undef, (.slice q0 1 1), undef, (.agg #[.int .i64 2, .int .i64 0, .string ⟨#[97]⟩]), (.agg #[.int .i64 1, .int .i64 2, .string ⟨#[]⟩]), undef, (.slice q1 1 1), undef, (.agg #[.int .i64 2, .int .i64 0, .string ⟨#[98]⟩]), (.agg #[.int .i64 1, .int .i64 1, .string ⟨#[]⟩]), undef, (.slice q2 1 1), undef, undef, undef, undef, undef, undef, undef, undef, undef, undef, undef, undef, undef, undef, undef, undef, undef, undef, undef, undef, undef, undef, undef, undef, undef, undef, undef, undef, undef, undef, undef, undef, undef, undef, undef, undef, undef, undef, undef, undef, undef, undef, undef, undef, undef, undef, undef, undef, undef, undef, undef, undef, undef, undef, undef, undef, undef, undef, undef, undef, undef, undef, undef, undef, undef, undef, undef, undef, undef, undef, undef, undef, undef, undef, undef, undef, undef, undef, undef, undef, undef, undef, undef, undef, undef, undef, undef, undef, undef, undef, undef, undef, undef, undef, undef, undef, undef, undef, undef, undef, undef, undef, undef, undef, undef, undef, undef, undef, undef, undef, undef, undef, undef, undef, undef, undef, undef, undef, undef, undef, undef, undef, undef, undef, undef, undef, undef, undef, undef, undef, undef, undef, undef, undef, undef, undef, undef, undef, undef, undef, undef, undef, undef, undef, undef, undef, undef, undef, undef, undef, undef, undef, undef, undef, undef, undef, undef, undef, undef, undef, undef, undef, undef, undef], []⟩ ∧ IsSpans w (.slice q0 1 1) [(0, 5)] ∧ IsSpans w (.slice q1 1 1) [(0, 5)] ∧ IsSpans w (.slice q2 1 1) [(0, 5)] ∧ Below w4.heap.size w4 w) ?mM_3 (fun M_3 => ?_)
  case mM_3 =>
    rintro f d a w ⟨rfl, rfl, q0, q1, q2, rfl, s0, s1, s2, bW⟩
    as_aux_lemma =>
      have hHeld := HALL _ bW
      refine any_three (i := 2) (j := 7) (k := 12) (by kernel_rfl) rfl rfl rfl rfl rfl rfl (fun K hK => ?_) (fun K hK => ?_) (fun K hK => ?_)
      · have nX := below_new w (.cells #[(.int .i64 2), (.int .i64 0), (.string ⟨#[97]⟩), (.int .i64 1), (.int .i64 1), (.string ⟨#[]⟩)] 58)
        have hX : IsVals (w.alloc (.cells #[(.int .i64 2), (.int .i64 0), (.string ⟨#[97]⟩), (.int .i64 1), (.int .i64 1), (.string ⟨#[]⟩)] 58)) (.slice (some ⟨w.heap.size, 0, none⟩) 2 2) tA1 := IsRows.lit w tA1 encsV (by decide)
        refine step_lit fitsV (by kernel_rfl) _ rfl _ rfl _ #[(.int .i64 2), (.int .i64 0), (.string ⟨#[97]⟩), (.int .i64 1), (.int .i64 1), (.string ⟨#[]⟩)] base58_2 (by decide) (by decide) [(0, .agg #[(.int .i64 2), (.int .i64 0), (.string ⟨#[97]⟩)]), (1, .agg #[(.int .i64 1), (.int .i64 1), (.string ⟨#[]⟩)])] (by kernel_rfl) (by kernel_rfl) ?_
        refine hK.out _ _ (HALL _ (bW.trans (nX.mono bW.size))) (fun hHeld => ?_)
        clear hK K
        try simp only [puts, gets]
        refine any_take (by kernel_rfl) (i := 4) (oi := _) (v := ?_) rfl rfl (by kernel_rfl) (by kernel_rfl) (by kernel_rfl) (fun _ _ _ h => h) (Or.inl ⟨by rfl, ?_⟩) hHeld ?_
        rotate_left
        · intro w' hSw; try dsimp only at hSw
          go_simp
          try with_reducible rfl
        try simp only [puts, gets]
        exact M0_3 _ _ _ _ ⟨rfl, rfl, _, _, _, _, rfl, hX, s0.keep nX, s1.keep nX, s2.keep nX, bW.trans (nX.mono bW.size)⟩
      · have nX := below_new w (.cells #[(.int .i64 2), (.int .i64 0), (.string ⟨#[97]⟩), (.int .i64 1), (.int .i64 2), (.string ⟨#[]⟩)] 58)
        have hX : IsVals (w.alloc (.cells #[(.int .i64 2), (.int .i64 0), (.string ⟨#[97]⟩), (.int .i64 1), (.int .i64 2), (.string ⟨#[]⟩)] 58)) (.slice (some ⟨w.heap.size, 0, none⟩) 2 2) tA2 := IsRows.lit w tA2 encsV (by decide)
        refine step_lit fitsV (by kernel_rfl) _ rfl _ rfl _ #[(.int .i64 2), (.int .i64 0), (.string ⟨#[97]⟩), (.int .i64 1), (.int .i64 2), (.string ⟨#[]⟩)] base58_2 (by decide) (by decide) [(0, .agg #[(.int .i64 2), (.int .i64 0), (.string ⟨#[97]⟩)]), (1, .agg #[(.int .i64 1), (.int .i64 2), (.string ⟨#[]⟩)])] (by kernel_rfl) (by kernel_rfl) ?_
        refine hK.out _ _ (HALL _ (bW.trans (nX.mono bW.size))) (fun hHeld => ?_)
        clear hK K
        try simp only [puts, gets]
        refine any_take (by kernel_rfl) (i := 9) (oi := _) (v := ?_) rfl rfl (by kernel_rfl) (by kernel_rfl) (by kernel_rfl) (fun _ _ _ h => h) (Or.inl ⟨by rfl, ?_⟩) hHeld ?_
        rotate_left
        · intro w' hSw; try dsimp only at hSw
          go_simp
          try with_reducible rfl
        try simp only [puts, gets]
        exact M1_3 _ _ _ _ ⟨rfl, rfl, _, _, _, _, rfl, hX, s0.keep nX, s1.keep nX, s2.keep nX, bW.trans (nX.mono bW.size)⟩
      · have nX := below_new w (.cells #[(.int .i64 2), (.int .i64 0), (.string ⟨#[98]⟩), (.int .i64 1), (.int .i64 1), (.string ⟨#[]⟩)] 58)
        have hX : IsVals (w.alloc (.cells #[(.int .i64 2), (.int .i64 0), (.string ⟨#[98]⟩), (.int .i64 1), (.int .i64 1), (.string ⟨#[]⟩)] 58)) (.slice (some ⟨w.heap.size, 0, none⟩) 2 2) tB1 := IsRows.lit w tB1 encsV (by decide)
        refine step_lit fitsV (by kernel_rfl) _ rfl _ rfl _ #[(.int .i64 2), (.int .i64 0), (.string ⟨#[98]⟩), (.int .i64 1), (.int .i64 1), (.string ⟨#[]⟩)] base58_2 (by decide) (by decide) [(0, .agg #[(.int .i64 2), (.int .i64 0), (.string ⟨#[98]⟩)]), (1, .agg #[(.int .i64 1), (.int .i64 1), (.string ⟨#[]⟩)])] (by kernel_rfl) (by kernel_rfl) ?_
        refine hK.out _ _ (HALL _ (bW.trans (nX.mono bW.size))) (fun hHeld => ?_)
        clear hK K
        try simp only [puts, gets]
        refine any_take (by kernel_rfl) (i := 14) (oi := _) (v := ?_) rfl rfl (by kernel_rfl) (by kernel_rfl) (by kernel_rfl) (fun _ _ _ h => h) (Or.inl ⟨by rfl, ?_⟩) hHeld ?_
        rotate_left
        · intro w' hSw; try dsimp only at hSw
          go_simp
          try with_reducible rfl
        try simp only [puts, gets]
        exact M2_3 _ _ _ _ ⟨rfl, rfl, _, _, _, _, rfl, hX, s0.keep nX, s1.keep nX, s2.keep nX, bW.trans (nX.mono bW.size)⟩
  refine any_merge (fun f d a w => f = 7 ∧ d = #[true, true, true, true, true, true, true, false, true, false, true, true, false, false, false, false, false] ∧ ∃ (p0 : Option Addr) (q0 : Option Addr) (q1 : Option Addr), a = ⟨#[(.bool false), (.pointer (some ⟨g1, 0, none⟩)), (.pointer (some ⟨g2, 0, none⟩)), (.pointer (some ⟨g3, 0, none⟩)), (.pointer (some ⟨g4, 0, none⟩)), undef, undef, undef, undef, undef, undef, undef, undef, (.agg #[.int .i64 2, .int .i64 0, .string ⟨#[97]⟩]), (.agg #[.int .i64 2, .int .i64 0, .string ⟨#[98]⟩]), (.agg #[.int .i64 1, .int .i64 1, .string ⟨#[]⟩]), (.agg #[.int .i64 1, .int .i64 2, .string ⟨#[]⟩]), (.agg #[.int .i64 2, .int .i64 0, .string ⟨#[97]⟩]), (.agg #[.int .i64 1, .int .i64 1, .string ⟨#[]⟩]), (.slice p0 2 2), (.slice q0 1 1), (.agg #[.slice p0 2 2, .slice q0 1 1]), (.agg #[.int .i64 2, .int .i64 0, .string ⟨#[97]⟩]), (.agg #[.int .i64 1, .int .i64 2, .string ⟨#[]⟩]), undef, (.slice q1 1 1), undef, (.agg #[.int .i64 2, .int .i64 0, .string ⟨#[98]⟩]), (.agg #[.int .i64 1, .int .i64 1, .string ⟨#[]⟩]), undef, undef, undef, undef, undef, undef, undef, undef, undef, undef, undef, undef, undef, undef, undef, undef, undef, undef, undef, undef, undef, undef, undef, undef, undef, undef, undef, undef, undef, undef, undef, undef, undef, undef, undef, undef, undef, undef, undef, undef, undef, undef, undef, undef, undef, undef, undef, undef, undef, undef, undef, undef, undef, undef, undef, undef, undef, undef, undef, undef, undef, undef, undef, undef, undef, undef, undef, undef, undef, undef, undef, undef, undef, undef, undef, undef, undef, undef, undef, undef, undef, undef, undef, undef, undef, undef, undef, undef, undef, undef, undef, undef, undef, undef, undef, undef, undef, undef, undef, undef, undef, undef, undef, undef, undef, undef, undef, undef, undef, undef, undef, undef, undef, undef, undef, undef, undef, undef, undef, undef, undef, undef, undef, undef, undef, undef, undef, undef, undef, undef, undef, undef, undef, undef, undef, undef, undef, undef, undef, undef, undef, undef, undef, undef, undef, undef, undef, undef, undef, undef, undef, undef, undef, undef, undef, undef, undef, undef, undef, undef, undef, undef, undef, undef, undef, undef], []⟩ ∧ IsVals w (.slice p0 2 2) tA1 ∧ IsSpans w (.slice q0 1 1) [(0, 5)] ∧ IsSpans w (.slice q1 1 1) [(0, 5)] ∧ Below w4.heap.size w4 w) ?mM0_2 (fun M0_2 => ?_)
  case mM0_2 =>
    rintro f d a w ⟨rfl, rfl, p0, q0, q1, rfl, v0, s0, s1, bW⟩
    as_aux_lemma =>
      have hHeld := HALL _ bW
      refine any_three (i := 7) (j := 12) (k := 13) (by kernel_rfl) rfl rfl rfl rfl rfl rfl (fun K hK => ?_) (fun K hK => ?_) (fun K hK => ?_)
      · have nX := below_new w (.cells #[(.int .i64 2), (.int .i64 0), (.string ⟨#[97]⟩), (.int .i64 1), (.int .i64 2), (.string ⟨#[]⟩)] 58)
        have hX : IsVals (w.alloc (.cells #[(.int .i64 2), (.int .i64 0), (.string ⟨#[97]⟩), (.int .i64 1), (.int .i64 2), (.string ⟨#[]⟩)] 58)) (.slice (some ⟨w.heap.size, 0, none⟩) 2 2) tA2 := IsRows.lit w tA2 encsV (by decide)
        refine step_lit fitsV (by kernel_rfl) _ rfl _ rfl _ #[(.int .i64 2), (.int .i64 0), (.string ⟨#[97]⟩), (.int .i64 1), (.int .i64 2), (.string ⟨#[]⟩)] base58_2 (by decide) (by decide) [(0, .agg #[(.int .i64 2), (.int .i64 0), (.string ⟨#[97]⟩)]), (1, .agg #[(.int .i64 1), (.int .i64 2), (.string ⟨#[]⟩)])] (by kernel_rfl) (by kernel_rfl) ?_
        refine hK.out _ _ (HALL _ (bW.trans (nX.mono bW.size))) (fun hHeld => ?_)
        clear hK K
        try simp only [puts, gets]
        refine any_take (by kernel_rfl) (i := 9) (oi := _) (v := ?_) rfl rfl (by kernel_rfl) (by kernel_rfl) (by kernel_rfl) (fun _ _ _ h => h) (Or.inl ⟨by rfl, ?_⟩) hHeld ?_
        rotate_left
        · intro w' hSw; try dsimp only at hSw
          go_simp
          try with_reducible rfl
        try simp only [puts, gets]
        exact M01_2 _ _ _ _ ⟨rfl, rfl, _, _, _, _, rfl, v0.keep nX, hX, s0.keep nX, s1.keep nX, bW.trans (nX.mono bW.size)⟩
      · have nX := below_new w (.cells #[(.int .i64 2), (.int .i64 0), (.string ⟨#[98]⟩), (.int .i64 1), (.int .i64 1), (.string ⟨#[]⟩)] 58)
        have hX : IsVals (w.alloc (.cells #[(.int .i64 2), (.int .i64 0), (.string ⟨#[98]⟩), (.int .i64 1), (.int .i64 1), (.string ⟨#[]⟩)] 58)) (.slice (some ⟨w.heap.size, 0, none⟩) 2 2) tB1 := IsRows.lit w tB1 encsV (by decide)
        refine step_lit fitsV (by kernel_rfl) _ rfl _ rfl _ #[(.int .i64 2), (.int .i64 0), (.string ⟨#[98]⟩), (.int .i64 1), (.int .i64 1), (.string ⟨#[]⟩)] base58_2 (by decide) (by decide) [(0, .agg #[(.int .i64 2), (.int .i64 0), (.string ⟨#[98]⟩)]), (1, .agg #[(.int .i64 1), (.int .i64 1), (.string ⟨#[]⟩)])] (by kernel_rfl) (by kernel_rfl) ?_
        refine hK.out _ _ (HALL _ (bW.trans (nX.mono bW.size))) (fun hHeld => ?_)
        clear hK K
        try simp only [puts, gets]
        exact M02_2 _ _ _ _ ⟨rfl, rfl, _, _, _, _, rfl, v0.keep nX, hX, s0.keep nX, s1.keep nX, bW.trans (nX.mono bW.size)⟩
      · have nX := below_new w (.cells #[.int .i64 0, .int .i64 5] 86)
        have hX : IsSpans (w.alloc (.cells #[.int .i64 0, .int .i64 5] 86)) (.slice (some ⟨w.heap.size, 0, none⟩) 1 1) [(0, 5)] := IsSpans.of_rows (IsRows.lit w [(0, 5)] encsS (by decide))
        go_simp
        go_at_call 100
        refine (five_any _).mono ?_
        rintro e wY ⟨rfl, rfl⟩
        refine hK.out _ _ (HALL _ (bW.trans (nX.mono bW.size))) (fun hHeld => ?_)
        clear hK K
        try simp only [puts, gets]
        exact M0_3 _ _ _ _ ⟨rfl, rfl, _, _, _, _, rfl, v0.keep nX, s0.keep nX, s1.keep nX, hX, bW.trans (nX.mono bW.size)⟩
  refine any_merge (fun f d a w => f = 7 ∧ d = #[true, true, false, true, false, true, true, true, true, true, true, true, false, false, false, false, false] ∧ ∃ (p1 : Option Addr) (q0 : Option Addr) (q1 : Option Addr), a = ⟨#[(.bool false), (.pointer (some ⟨g1, 0, none⟩)), (.pointer (some ⟨g2, 0, none⟩)), (.pointer (some ⟨g3, 0, none⟩)), (.pointer (some ⟨g4, 0, none⟩)), undef, undef, undef, undef, undef, undef, undef, undef, (.agg #[.int .i64 2, .int .i64 0, .string ⟨#[97]⟩]), (.agg #[.int .i64 2, .int .i64 0, .string ⟨#[98]⟩]), (.agg #[.int .i64 1, .int .i64 1, .string ⟨#[]⟩]), (.agg #[.int .i64 1, .int .i64 2, .string ⟨#[]⟩]), (.agg #[.int .i64 2, .int .i64 0, .string ⟨#[97]⟩]), (.agg #[.int .i64 1, .int .i64 1, .string ⟨#[]⟩]), undef, (.slice q0 1 1), undef, (.agg #[.int .i64 2, .int .i64 0, .string ⟨#[97]⟩]), (.agg #[.int .i64 1, .int .i64 2, .string ⟨#[]⟩]), (.slice p1 2 2), (.slice q1 1 1), (.agg #[.slice p1 2 2, .slice q1 1 1]), (.agg #[.int .i64 2, .int .i64 0, .string ⟨#[98]⟩]), (.agg #[.int .i64 1, .int .i64 1, .string ⟨#[]⟩]), undef, undef, undef, undef, undef, undef, undef, undef, undef, undef, undef, undef, undef, undef, undef, undef, undef, undef, undef, undef, undef, undef, undef, undef, undef, undef, undef, undef, undef, undef, undef, undef, undef, undef, undef, undef, undef, undef, undef, undef, undef, undef, undef, undef, undef, undef, undef, undef, undef, undef, undef, undef, undef, undef, undef, undef, undef, undef, undef, undef, undef, undef, undef, undef, undef, undef, undef, undef, undef, undef, undef, undef, undef, undef, undef, undef, undef, undef, undef, undef, undef, undef, undef, undef, undef, undef, undef, undef, undef, undef, undef, undef, undef, undef, undef, undef, undef, undef, undef, undef, undef, undef, undef, undef, undef, undef, undef, undef, undef, undef, undef, undef, undef, undef, undef, undef, undef, undef, undef, undef, undef, undef, undef, undef, undef, undef, undef, undef, undef, undef, undef, undef, undef, undef, undef, undef, undef, undef, undef, undef, undef, undef, undef, undef, undef, undef, undef, undef, undef, undef, undef, undef, undef, undef, undef, undef, undef, undef, undef, undef, undef, undef, undef, undef, undef, undef], []⟩ ∧ IsVals w (.slice p1 2 2) tA2 ∧ IsSpans w (.slice q0 1 1) [(0, 5)] ∧ IsSpans w (.slice q1 1 1) [(0, 5)] ∧ Below w4.heap.size w4 w) ?mM1_2 (fun M1_2 => ?_)
  case mM1_2 =>
    rintro f d a w ⟨rfl, rfl, p1, q0, q1, rfl, v1, s0, s1, bW⟩
    as_aux_lemma =>
      have hHeld := HALL _ bW
      refine any_three (i := 2) (j := 12) (k := 13) (by kernel_rfl) rfl rfl rfl rfl rfl rfl (fun K hK => ?_) (fun K hK => ?_) (fun K hK => ?_)
      · have nX := below_new w (.cells #[(.int .i64 2), (.int .i64 0), (.string ⟨#[97]⟩), (.int .i64 1), (.int .i64 1), (.string ⟨#[]⟩)] 58)
        have hX : IsVals (w.alloc (.cells #[(.int .i64 2), (.int .i64 0), (.string ⟨#[97]⟩), (.int .i64 1), (.int .i64 1), (.string ⟨#[]⟩)] 58)) (.slice (some ⟨w.heap.size, 0, none⟩) 2 2) tA1 := IsRows.lit w tA1 encsV (by decide)
        refine step_lit fitsV (by kernel_rfl) _ rfl _ rfl _ #[(.int .i64 2), (.int .i64 0), (.string ⟨#[97]⟩), (.int .i64 1), (.int .i64 1), (.string ⟨#[]⟩)] base58_2 (by decide) (by decide) [(0, .agg #[(.int .i64 2), (.int .i64 0), (.string ⟨#[97]⟩)]), (1, .agg #[(.int .i64 1), (.int .i64 1), (.string ⟨#[]⟩)])] (by kernel_rfl) (by kernel_rfl) ?_
        refine hK.out _ _ (HALL _ (bW.trans (nX.mono bW.size))) (fun hHeld => ?_)
        clear hK K
        try simp only [puts, gets]
        refine any_take (by kernel_rfl) (i := 4) (oi := _) (v := ?_) rfl rfl (by kernel_rfl) (by kernel_rfl) (by kernel_rfl) (fun _ _ _ h => h) (Or.inl ⟨by rfl, ?_⟩) hHeld ?_
        rotate_left
        · intro w' hSw; try dsimp only at hSw
          go_simp
          try with_reducible rfl
        try simp only [puts, gets]
        exact M01_2 _ _ _ _ ⟨rfl, rfl, _, _, _, _, rfl, hX, v1.keep nX, s0.keep nX, s1.keep nX, bW.trans (nX.mono bW.size)⟩
      · have nX := below_new w (.cells #[(.int .i64 2), (.int .i64 0), (.string ⟨#[98]⟩), (.int .i64 1), (.int .i64 1), (.string ⟨#[]⟩)] 58)
        have hX : IsVals (w.alloc (.cells #[(.int .i64 2), (.int .i64 0), (.string ⟨#[98]⟩), (.int .i64 1), (.int .i64 1), (.string ⟨#[]⟩)] 58)) (.slice (some ⟨w.heap.size, 0, none⟩) 2 2) tB1 := IsRows.lit w tB1 encsV (by decide)
        refine step_lit fitsV (by kernel_rfl) _ rfl _ rfl _ #[(.int .i64 2), (.int .i64 0), (.string ⟨#[98]⟩), (.int .i64 1), (.int .i64 1), (.string ⟨#[]⟩)] base58_2 (by decide) (by decide) [(0, .agg #[(.int .i64 2), (.int .i64 0), (.string ⟨#[98]⟩)]), (1, .agg #[(.int .i64 1), (.int .i64 1), (.string ⟨#[]⟩)])] (by kernel_rfl) (by kernel_rfl) ?_
        refine hK.out _ _ (HALL _ (bW.trans (nX.mono bW.size))) (fun hHeld => ?_)
        clear hK K
        try simp only [puts, gets]
        exact M12_2 _ _ _ _ ⟨rfl, rfl, _, _, _, _, rfl, v1.keep nX, hX, s0.keep nX, s1.keep nX, bW.trans (nX.mono bW.size)⟩
      · have nX := below_new w (.cells #[.int .i64 0, .int .i64 5] 86)
        have hX : IsSpans (w.alloc (.cells #[.int .i64 0, .int .i64 5] 86)) (.slice (some ⟨w.heap.size, 0, none⟩) 1 1) [(0, 5)] := IsSpans.of_rows (IsRows.lit w [(0, 5)] encsS (by decide))
        go_simp
        go_at_call 100
        refine (five_any _).mono ?_
        rintro e wY ⟨rfl, rfl⟩
        refine hK.out _ _ (HALL _ (bW.trans (nX.mono bW.size))) (fun hHeld => ?_)
        clear hK K
        try simp only [puts, gets]
        exact M1_3 _ _ _ _ ⟨rfl, rfl, _, _, _, _, rfl, v1.keep nX, s0.keep nX, s1.keep nX, hX, bW.trans (nX.mono bW.size)⟩
  refine any_merge (fun f d a w => f = 8 ∧ d = #[true, true, false, true, false, true, true, false, true, false, true, true, true, false, false, false, false] ∧ ∃ (p2 : Option Addr) (q0 : Option Addr) (q1 : Option Addr), a = ⟨#[(.bool false), (.pointer (some ⟨g1, 0, none⟩)), (.pointer (some ⟨g2, 0, none⟩)), (.pointer (some ⟨g3, 0, none⟩)), (.pointer (some ⟨g4, 0, none⟩)), undef, undef, undef, undef, undef, undef, undef, undef, (.agg #[.int .i64 2, .int .i64 0, .string ⟨#[97]⟩]), (.agg #[.int .i64 2, .int .i64 0, .string ⟨#[98]⟩]), (.agg #[.int .i64 1, .int .i64 1, .string ⟨#[]⟩]), (.agg #[.int .i64 1, .int .i64 2, .string ⟨#[]⟩]), (.agg #[.int .i64 2, .int .i64 0, .string ⟨#[97]⟩]), (.agg #[.int .i64 1, .int .i64 1, .string ⟨#[]⟩]), undef, (.slice q0 1 1), undef, (.agg #[.int .i64 2, .int .i64 0, .string ⟨#[97]⟩]), (.agg #[.int .i64 1, .int .i64 2, .string ⟨#[]⟩]), undef, (.slice q1 1 1), undef, (.agg #[.int .i64 2, .int .i64 0, .string ⟨#[98]⟩]), (.agg #[.int .i64 1, .int .i64 1, .string ⟨#[]⟩]), (.slice p2 2 2), undef, undef, undef, undef, undef, undef, undef, undef, undef, undef, undef, undef, undef, undef, undef, undef, undef, undef, undef, undef, undef, undef, undef, undef, undef, undef, undef, undef, undef, undef, undef, undef, undef, undef, undef, undef, undef, undef, undef, undef, undef, undef, undef, undef, undef, undef, undef, undef, undef, undef, undef, undef, undef, undef, undef, undef, undef, undef, undef, undef, undef, undef, undef, undef, undef, undef, undef, undef, undef, undef, undef, undef, undef, undef, undef, undef, undef, undef, undef, undef, undef, undef, undef, undef, undef, undef, undef, undef, undef, undef, undef, undef, undef, undef, undef, undef, undef, undef, undef, undef, undef, undef, undef, undef, undef, undef, undef, undef, undef, undef, undef, undef, undef, undef, undef, undef, undef, undef, undef, undef, undef, undef, undef, undef, undef, undef, undef, undef, undef, undef, undef, undef, undef, undef, undef, undef, undef, undef, undef, undef, undef, undef, undef, undef, undef, undef, undef, undef, undef, undef, undef, undef, undef, undef, undef, undef, undef, undef, undef, undef, undef, undef, undef, undef, undef], []⟩ ∧ IsVals w (.slice p2 2 2) tB1 ∧ IsSpans w (.slice q0 1 1) [(0, 5)] ∧ IsSpans w (.slice q1 1 1) [(0, 5)] ∧ Below w4.heap.size w4 w) ?mM2_2 (fun M2_2 => ?_)
  case mM2_2 =>
    rintro f d a w ⟨rfl, rfl, p2, q0, q1, rfl, v2, s0, s1, bW⟩
    as_aux_lemma =>
      have hHeld := HALL _ bW
      refine any_three (i := 2) (j := 7) (k := 13) (by kernel_rfl) rfl rfl rfl rfl rfl rfl (fun K hK => ?_) (fun K hK => ?_) (fun K hK => ?_)
      · have nX := below_new w (.cells #[(.int .i64 2), (.int .i64 0), (.string ⟨#[97]⟩), (.int .i64 1), (.int .i64 1), (.string ⟨#[]⟩)] 58)
        have hX : IsVals (w.alloc (.cells #[(.int .i64 2), (.int .i64 0), (.string ⟨#[97]⟩), (.int .i64 1), (.int .i64 1), (.string ⟨#[]⟩)] 58)) (.slice (some ⟨w.heap.size, 0, none⟩) 2 2) tA1 := IsRows.lit w tA1 encsV (by decide)
        refine step_lit fitsV (by kernel_rfl) _ rfl _ rfl _ #[(.int .i64 2), (.int .i64 0), (.string ⟨#[97]⟩), (.int .i64 1), (.int .i64 1), (.string ⟨#[]⟩)] base58_2 (by decide) (by decide) [(0, .agg #[(.int .i64 2), (.int .i64 0), (.string ⟨#[97]⟩)]), (1, .agg #[(.int .i64 1), (.int .i64 1), (.string ⟨#[]⟩)])] (by kernel_rfl) (by kernel_rfl) ?_
        refine hK.out _ _ (HALL _ (bW.trans (nX.mono bW.size))) (fun hHeld => ?_)
        clear hK K
        try simp only [puts, gets]
        refine any_take (by kernel_rfl) (i := 4) (oi := _) (v := ?_) rfl rfl (by kernel_rfl) (by kernel_rfl) (by kernel_rfl) (fun _ _ _ h => h) (Or.inl ⟨by rfl, ?_⟩) hHeld ?_
        rotate_left
        · intro w' hSw; try dsimp only at hSw
          go_simp
          try with_reducible rfl
        try simp only [puts, gets]
        exact M02_2 _ _ _ _ ⟨rfl, rfl, _, _, _, _, rfl, hX, v2.keep nX, s0.keep nX, s1.keep nX, bW.trans (nX.mono bW.size)⟩
      · have nX := below_new w (.cells #[(.int .i64 2), (.int .i64 0), (.string ⟨#[97]⟩), (.int .i64 1), (.int .i64 2), (.string ⟨#[]⟩)] 58)
        have hX : IsVals (w.alloc (.cells #[(.int .i64 2), (.int .i64 0), (.string ⟨#[97]⟩), (.int .i64 1), (.int .i64 2), (.string ⟨#[]⟩)] 58)) (.slice (some ⟨w.heap.size, 0, none⟩) 2 2) tA2 := IsRows.lit w tA2 encsV (by decide)
        refine step_lit fitsV (by kernel_rfl) _ rfl _ rfl _ #[(.int .i64 2), (.int .i64 0), (.string ⟨#[97]⟩), (.int .i64 1), (.int .i64 2), (.string ⟨#[]⟩)] base58_2 (by decide) (by decide) [(0, .agg #[(.int .i64 2), (.int .i64 0), (.string ⟨#[97]⟩)]), (1, .agg #[(.int .i64 1), (.int .i64 2), (.string ⟨#[]⟩)])] (by kernel_rfl) (by kernel_rfl) ?_
        refine hK.out _ _ (HALL _ (bW.trans (nX.mono bW.size))) (fun hHeld => ?_)
        clear hK K
        try simp only [puts, gets]
        refine any_take (by kernel_rfl) (i := 9) (oi := _) (v := ?_) rfl rfl (by kernel_rfl) (by kernel_rfl) (by kernel_rfl) (fun _ _ _ h => h) (Or.inl ⟨by rfl, ?_⟩) hHeld ?_
        rotate_left
        · intro w' hSw; try dsimp only at hSw
          go_simp
          try with_reducible rfl
        try simp only [puts, gets]
        exact M12_2 _ _ _ _ ⟨rfl, rfl, _, _, _, _, rfl, hX, v2.keep nX, s0.keep nX, s1.keep nX, bW.trans (nX.mono bW.size)⟩
      · have nX := below_new w (.cells #[.int .i64 0, .int .i64 5] 86)
        have hX : IsSpans (w.alloc (.cells #[.int .i64 0, .int .i64 5] 86)) (.slice (some ⟨w.heap.size, 0, none⟩) 1 1) [(0, 5)] := IsSpans.of_rows (IsRows.lit w [(0, 5)] encsS (by decide))
        go_simp
        go_at_call 100
        refine (five_any _).mono ?_
        rintro e wY ⟨rfl, rfl⟩
        refine hK.out _ _ (HALL _ (bW.trans (nX.mono bW.size))) (fun hHeld => ?_)
        clear hK K
        try simp only [puts, gets]
        refine any_take (by kernel_rfl) (i := 14) (oi := _) (v := ?_) rfl rfl (by kernel_rfl) (by kernel_rfl) (by kernel_rfl) (fun _ _ _ h => h) (Or.inl ⟨by rfl, ?_⟩) hHeld ?_
        rotate_left
        · intro w' hSw; try dsimp only at hSw
          go_simp
          try with_reducible rfl
        try simp only [puts, gets]
        exact M2_3 _ _ _ _ ⟨rfl, rfl, _, _, _, _, rfl, v2.keep nX, s0.keep nX, s1.keep nX, hX, bW.trans (nX.mono bW.size)⟩
  refine any_merge (fun f d a w => f = 7 ∧ d = #[true, true, true, true, true, true, true, true, false, false, true, true, false, false, false, false, false] ∧ ∃ (p0 : Option Addr) (p1 : Option Addr) (q0 : Option Addr), a = ⟨#[(.bool false), (.pointer (some ⟨g1, 0, none⟩)), (.pointer (some ⟨g2, 0, none⟩)), (.pointer (some ⟨g3, 0, none⟩)), (.pointer (some ⟨g4, 0, none⟩)), undef, undef, undef, undef, undef, undef, undef, undef, (.agg #[.int .i64 2, .int .i64 0, .string ⟨#[97]⟩]), (.agg #[.int .i64 2, .int .i64 0, .string ⟨#[98]⟩]), (.agg #[.int .i64 1, .int .i64 1, .string ⟨#[]⟩]), (.agg #[.int .i64 1, .int .i64 2, .string ⟨#[]⟩]), (.agg #[.int .i64 2, .int .i64 0, .string ⟨#[97]⟩]), (.agg #[.int .i64 1, .int .i64 1, .string ⟨#[]⟩]), (.slice p0 2 2), (.slice q0 1 1), (.agg #[.slice p0 2 2, .slice q0 1 1]), (.agg #[.int .i64 2, .int .i64 0, .string ⟨#[97]⟩]), (.agg #[.int .i64 1, .int .i64 2, .string ⟨#[]⟩]), (.slice p1 2 2), undef, undef, (.agg #[.int .i64 2, .int .i64 0, .string ⟨#[98]⟩]), (.agg #[.int .i64 1, .int .i64 1, .string ⟨#[]⟩]), undef, undef, undef, undef, undef, undef, undef, undef, undef, undef, undef, undef, undef, undef, undef, undef, undef, undef, undef, undef, undef, undef, undef, undef, undef, undef, undef, undef, undef, undef, undef, undef, undef, undef, undef, undef, undef, undef, undef, undef, undef, undef, undef, undef, undef, undef, undef, undef, undef, undef, undef, undef, undef, undef, undef, undef, undef, undef, undef, undef, undef, undef, undef, undef, undef, undef, undef, undef, undef, undef, undef, undef, undef, undef, undef, undef, undef, undef, undef, undef, undef, undef, undef, undef, undef, undef, undef, undef, undef, undef, undef, undef, undef, undef, undef, undef, undef, undef, undef, undef, undef, undef, undef, undef, undef, undef, undef, undef, undef, undef, undef, undef, undef, undef, undef, undef, undef, undef, undef, undef, undef, undef, undef, undef, undef, undef, undef, undef, undef, undef, undef, undef, undef, undef, undef, undef, undef, undef, undef, undef, undef, undef, undef, undef, undef, undef, undef, undef, undef, undef, undef, undef, undef, undef, undef, undef, undef, undef, undef, undef, undef, undef, undef, undef, undef, undef], []⟩ ∧ IsVals w (.slice p0 2 2) tA1 ∧ IsVals w (.slice p1 2 2) tA2 ∧ IsSpans w (.slice q0 1 1) [(0, 5)] ∧ Below w4.heap.size w4 w) ?mM01_1 (fun M01_1 => ?_)
  case mM01_1 =>
    rintro f d a w ⟨rfl, rfl, p0, p1, q0, rfl, v0, v1, s0, bW⟩
    as_aux_lemma =>
      have hHeld := HALL _ bW
      refine any_two (i := 8) (j := 12) (by kernel_rfl) rfl rfl rfl rfl (fun K hK => ?_) (fun K hK => ?_)
      · have nX := below_new w (.cells #[.int .i64 0, .int .i64 5] 86)
        have hX : IsSpans (w.alloc (.cells #[.int .i64 0, .int .i64 5] 86)) (.slice (some ⟨w.heap.size, 0, none⟩) 1 1) [(0, 5)] := IsSpans.of_rows (IsRows.lit w [(0, 5)] encsS (by decide))
        go_simp
        go_at_call 100
        refine (five_any _).mono ?_
        rintro e wY ⟨rfl, rfl⟩
        refine hK.out _ _ (HALL _ (bW.trans (nX.mono bW.size))) (fun hHeld => ?_)
        clear hK K
        try simp only [puts, gets]
        refine any_take (by kernel_rfl) (i := 9) (oi := _) (v := ?_) rfl rfl (by kernel_rfl) (by kernel_rfl) (by kernel_rfl) (fun _ _ _ h => h) (Or.inl ⟨by rfl, ?_⟩) hHeld ?_
        rotate_left
        · intro w' hSw; try dsimp only at hSw
          go_simp
          try with_reducible rfl
        try simp only [puts, gets]
        exact M01_2 _ _ _ _ ⟨rfl, rfl, _, _, _, _, rfl, v0.keep nX, v1.keep nX, s0.keep nX, hX, bW.trans (nX.mono bW.size)⟩
      · have nX := below_new w (.cells #[(.int .i64 2), (.int .i64 0), (.string ⟨#[98]⟩), (.int .i64 1), (.int .i64 1), (.string ⟨#[]⟩)] 58)
        have hX : IsVals (w.alloc (.cells #[(.int .i64 2), (.int .i64 0), (.string ⟨#[98]⟩), (.int .i64 1), (.int .i64 1), (.string ⟨#[]⟩)] 58)) (.slice (some ⟨w.heap.size, 0, none⟩) 2 2) tB1 := IsRows.lit w tB1 encsV (by decide)
        refine step_lit fitsV (by kernel_rfl) _ rfl _ rfl _ #[(.int .i64 2), (.int .i64 0), (.string ⟨#[98]⟩), (.int .i64 1), (.int .i64 1), (.string ⟨#[]⟩)] base58_2 (by decide) (by decide) [(0, .agg #[(.int .i64 2), (.int .i64 0), (.string ⟨#[98]⟩)]), (1, .agg #[(.int .i64 1), (.int .i64 1), (.string ⟨#[]⟩)])] (by kernel_rfl) (by kernel_rfl) ?_
        refine hK.out _ _ (HALL _ (bW.trans (nX.mono bW.size))) (fun hHeld => ?_)
        clear hK K
        try simp only [puts, gets]
        exact M012_1 _ _ _ _ ⟨rfl, rfl, _, _, _, _, rfl, v0.keep nX, v1.keep nX, hX, s0.keep nX, bW.trans (nX.mono bW.size)⟩
  refine any_merge (fun f d a w => f = 7 ∧ d = #[true, true, true, true, true, true, true, false, false, false, true, true, true, false, false, false, false] ∧ ∃ (p0 : Option Addr) (p2 : Option Addr) (q0 : Option Addr), a = ⟨#[(.bool false), (.pointer (some ⟨g1, 0, none⟩)), (.pointer (some ⟨g2, 0, none⟩)), (.pointer (some ⟨g3, 0, none⟩)), (.pointer (some ⟨g4, 0, none⟩)), undef, undef, undef, undef, undef, undef, undef, undef, (.agg #[.int .i64 2, .int .i64 0, .string ⟨#[97]⟩]), (.agg #[.int .i64 2, .int .i64 0, .string ⟨#[98]⟩]), (.agg #[.int .i64 1, .int .i64 1, .string ⟨#[]⟩]), (.agg #[.int .i64 1, .int .i64 2, .string ⟨#[]⟩]), (.agg #[.int .i64 2, .int .i64 0, .string ⟨#[97]⟩]), (.agg #[.int .i64 1, .int .i64 1, .string ⟨#[]⟩]), (.slice p0 2 2), (.slice q0 1 1), (.agg #[.slice p0 2 2, .slice q0 1 1]), (.agg #[.int .i64 2, .int .i64 0, .string ⟨#[97]⟩]), (.agg #[.int .i64 1, .int .i64 2, .string ⟨#[]⟩]), undef, undef, undef, (.agg #[.int .i64 2, .int .i64 0, .string ⟨#[98]⟩]), (.agg #[.int .i64 1, .int .i64 1, .string ⟨#[]⟩]), (.slice p2 2 2), undef, undef, undef, undef, undef, undef, undef, undef, undef, undef, undef, undef, undef, undef, undef, undef, undef, undef, undef, undef, undef, undef, undef, undef, undef, undef, undef, undef, undef, undef, undef, undef, undef, undef, undef, undef, undef, undef, undef, undef, undef, undef, undef, undef, undef, undef, undef, undef, undef, undef, undef, undef, undef, undef, undef, undef, undef, undef, undef, undef, undef, undef, undef, undef, undef, undef, undef, undef, undef, undef, undef, undef, undef, undef, undef, undef, undef, undef, undef, undef, undef, undef, undef, undef, undef, undef, undef, undef, undef, undef, undef, undef, undef, undef, undef, undef, undef, undef, undef, undef, undef, undef, undef, undef, undef, undef, undef, undef, undef, undef, undef, undef, undef, undef, undef, undef, undef, undef, undef, undef, undef, undef, undef, undef, undef, undef, undef, undef, undef, undef, undef, undef, undef, undef, undef, undef, undef, undef, undef, undef, undef, undef, undef, undef, undef, undef, undef, undef, undef, undef, undef, undef, undef, undef, undef, undef, undef, undef, undef, undef, undef, undef, undef, undef, undef], []⟩ ∧ IsVals w (.slice p0 2 2) tA1 ∧ IsVals w (.slice p2 2 2) tB1 ∧ IsSpans w (.slice q0 1 1) [(0, 5)] ∧ Below w4.heap.size w4 w) ?mM02_1 (fun M02_1 => ?_)
  case mM02_1 =>
    rintro f d a w ⟨rfl, rfl, p0, p2, q0, rfl, v0, v2, s0, bW⟩
    as_aux_lemma =>
      have hHeld := HALL _ bW
      refine any_two (i := 7) (j := 8) (by kernel_rfl) rfl rfl rfl rfl (fun K hK => ?_) (fun K hK => ?_)
      · have nX := below_new w (.cells #[(.int .i64 2), (.int .i64 0), (.string ⟨#[97]⟩), (.int .i64 1), (.int .i64 2), (.string ⟨#[]⟩)] 58)
        have hX : IsVals (w.alloc (.cells #[(.int .i64 2), (.int .i64 0), (.string ⟨#[97]⟩), (.int .i64 1), (.int .i64 2), (.string ⟨#[]⟩)] 58)) (.slice (some ⟨w.heap.size, 0, none⟩) 2 2) tA2 := IsRows.lit w tA2 encsV (by decide)
        refine step_lit fitsV (by kernel_rfl) _ rfl _ rfl _ #[(.int .i64 2), (.int .i64 0), (.string ⟨#[97]⟩), (.int .i64 1), (.int .i64 2), (.string ⟨#[]⟩)] base58_2 (by decide) (by decide) [(0, .agg #[(.int .i64 2), (.int .i64 0), (.string ⟨#[97]⟩)]), (1, .agg #[(.int .i64 1), (.int .i64 2), (.string ⟨#[]⟩)])] (by kernel_rfl) (by kernel_rfl) ?_
        refine hK.out _ _ (HALL _ (bW.trans (nX.mono bW.size))) (fun hHeld => ?_)
        clear hK K
        try simp only [puts, gets]
        exact M012_1 _ _ _ _ ⟨rfl, rfl, _, _, _, _, rfl, v0.keep nX, hX, v2.keep nX, s0.keep nX, bW.trans (nX.mono bW.size)⟩
      · have nX := below_new w (.cells #[.int .i64 0, .int .i64 5] 86)
        have hX : IsSpans (w.alloc (.cells #[.int .i64 0, .int .i64 5] 86)) (.slice (some ⟨w.heap.size, 0, none⟩) 1 1) [(0, 5)] := IsSpans.of_rows (IsRows.lit w [(0, 5)] encsS (by decide))
        go_simp
        go_at_call 100
        refine (five_any _).mono ?_
        rintro e wY ⟨rfl, rfl⟩
        refine hK.out _ _ (HALL _ (bW.trans (nX.mono bW.size))) (fun hHeld => ?_)
        clear hK K
        try simp only [puts, gets]
        exact M02_2 _ _ _ _ ⟨rfl, rfl, _, _, _, _, rfl, v0.keep nX, v2.keep nX, s0.keep nX, hX, bW.trans (nX.mono bW.size)⟩
  refine any_merge (fun f d a w => f = 8 ∧ d = #[true, true, false, true, false, true, true, true, false, false, true, true, true, false, false, false, false] ∧ ∃ (p1 : Option Addr) (p2 : Option Addr) (q0 : Option Addr), a = ⟨#[(.bool false), (.pointer (some ⟨g1, 0, none⟩)), (.pointer (some ⟨g2, 0, none⟩)), (.pointer (some ⟨g3, 0, none⟩)), (.pointer (some ⟨g4, 0, none⟩)), undef, undef, undef, undef, undef, undef, undef, undef, (.agg #[.int .i64 2, .int .i64 0, .string ⟨#[97]⟩]), (.agg #[.int .i64 2, .int .i64 0, .string ⟨#[98]⟩]), (.agg #[.int .i64 1, .int .i64 1, .string ⟨#[]⟩]), (.agg #[.int .i64 1, .int .i64 2, .string ⟨#[]⟩]), (.agg #[.int .i64 2, .int .i64 0, .string ⟨#[97]⟩]), (.agg #[.int .i64 1, .int .i64 1, .string ⟨#[]⟩]), undef, (.slice q0 1 1), undef, (.agg #[.int .i64 2, .int .i64 0, .string ⟨#[97]⟩]), (.agg #[.int .i64 1, .int .i64 2, .string ⟨#[]⟩]), (.slice p1 2 2), undef, undef, (.agg #[.int .i64 2, .int .i64 0, .string ⟨#[98]⟩]), (.agg #[.int .i64 1, .int .i64 1, .string ⟨#[]⟩]), (.slice p2 2 2), undef, undef, undef, undef, undef, undef, undef, undef, undef, undef, undef, undef, undef, undef, undef, undef, undef, undef, undef, undef, undef, undef, undef, undef, undef, undef, undef, undef, undef, undef, undef, undef, undef, undef, undef, undef, undef, undef, undef, undef, undef, undef, undef, undef, undef, undef, undef, undef, undef, undef, undef, undef, undef, undef, undef, undef, undef, undef, undef, undef, undef, undef, undef, undef, undef, undef, undef, undef, undef, undef, undef, undef, undef, undef, undef, undef, undef, undef, undef, undef, undef, undef, undef, undef, undef, undef, undef, undef, undef, undef, undef, undef, undef, undef, undef, undef, undef, undef, undef, undef, undef, undef, undef, undef, undef, undef, undef, undef, undef, undef, undef, undef, undef, undef, undef, undef, undef, undef, undef, undef, undef, undef, undef, undef, undef, undef, undef, undef, undef, undef, undef, undef, undef, undef, undef, undef, undef, undef, undef, undef, undef, undef, undef, undef, undef, undef, undef, undef, undef, undef, undef, undef, undef, undef, undef, undef, undef, undef, undef, undef, undef, undef, undef, undef, undef], []⟩ ∧ IsVals w (.slice p1 2 2) tA2 ∧ IsVals w (.slice p2 2 2) tB1 ∧ IsSpans w (.slice q0 1 1) [(0, 5)] ∧ Below w4.heap.size w4 w) ?mM12_1 (fun M12_1 => ?_)
  case mM12_1 =>
    rintro f d a w ⟨rfl, rfl, p1, p2, q0, rfl, v1, v2, s0, bW⟩
    as_aux_lemma =>
      have hHeld := HALL _ bW
      refine any_two (i := 2) (j := 8) (by kernel_rfl) rfl rfl rfl rfl (fun K hK => ?_) (fun K hK => ?_)
      · have nX := below_new w (.cells #[(.int .i64 2), (.int .i64 0), (.string ⟨#[97]⟩), (.int .i64 1), (.int .i64 1), (.string ⟨#[]⟩)] 58)
        have hX : IsVals (w.alloc (.cells #[(.int .i64 2), (.int .i64 0), (.string ⟨#[97]⟩), (.int .i64 1), (.int .i64 1), (.string ⟨#[]⟩)] 58)) (.slice (some ⟨w.heap.size, 0, none⟩) 2 2) tA1 := IsRows.lit w tA1 encsV (by decide)
        refine step_lit fitsV (by kernel_rfl) _ rfl _ rfl _ #[(.int .i64 2), (.int .i64 0), (.string ⟨#[97]⟩), (.int .i64 1), (.int .i64 1), (.string ⟨#[]⟩)] base58_2 (by decide) (by decide) [(0, .agg #[(.int .i64 2), (.int .i64 0), (.string ⟨#[97]⟩)]), (1, .agg #[(.int .i64 1), (.int .i64 1), (.string ⟨#[]⟩)])] (by kernel_rfl) (by kernel_rfl) ?_
        refine hK.out _ _ (HALL _ (bW.trans (nX.mono bW.size))) (fun hHeld => ?_)
        clear hK K
        try simp only [puts, gets]
        refine any_take (by kernel_rfl) (i := 4) (oi := _) (v := ?_) rfl rfl (by kernel_rfl) (by kernel_rfl) (by kernel_rfl) (fun _ _ _ h => h) (Or.inl ⟨by rfl, ?_⟩) hHeld ?_
        rotate_left
        · intro w' hSw; try dsimp only at hSw
          go_simp
          try with_reducible rfl
        try simp only [puts, gets]
        exact M012_1 _ _ _ _ ⟨rfl, rfl, _, _, _, _, rfl, hX, v1.keep nX, v2.keep nX, s0.keep nX, bW.trans (nX.mono bW.size)⟩
      · have nX := below_new w (.cells #[.int .i64 0, .int .i64 5] 86)
        have hX : IsSpans (w.alloc (.cells #[.int .i64 0, .int .i64 5] 86)) (.slice (some ⟨w.heap.size, 0, none⟩) 1 1) [(0, 5)] := IsSpans.of_rows (IsRows.lit w [(0, 5)] encsS (by decide))
        go_simp
        go_at_call 100
        refine (five_any _).mono ?_
        rintro e wY ⟨rfl, rfl⟩
        refine hK.out _ _ (HALL _ (bW.trans (nX.mono bW.size))) (fun hHeld => ?_)
        clear hK K
        try simp only [puts, gets]
        refine any_take (by kernel_rfl) (i := 9) (oi := _) (v := ?_) rfl rfl (by kernel_rfl) (by kernel_rfl) (by kernel_rfl) (fun _ _ _ h => h) (Or.inl ⟨by rfl, ?_⟩) hHeld ?_
        rotate_left
        · intro w' hSw; try dsimp only at hSw
          go_simp
          try with_reducible rfl
        try simp only [puts, gets]
        exact M12_2 _ _ _ _ ⟨rfl, rfl, _, _, _, _, rfl, v1.keep nX, v2.keep nX, s0.keep nX, hX, bW.trans (nX.mono bW.size)⟩
  refine any_merge (fun f d a w => f = 8 ∧ d = #[true, true, true, false, false, true, true, true, false, false, true, true, true, false, false, false, false] ∧ ∃ (p0 : Option Addr) (p1 : Option Addr) (p2 : Option Addr), a = ⟨#[(.bool false), (.pointer (some ⟨g1, 0, none⟩)), (.pointer (some ⟨g2, 0, none⟩)), (.pointer (some ⟨g3, 0, none⟩)), (.pointer (some ⟨g4, 0, none⟩)), undef, undef, undef, undef, undef, undef, undef, undef, (.agg #[.int .i64 2, .int .i64 0, .string ⟨#[97]⟩]), (.agg #[.int .i64 2, .int .i64 0, .string ⟨#[98]⟩]), (.agg #[.int .i64 1, .int .i64 1, .string ⟨#[]⟩]), (.agg #[.int .i64 1, .int .i64 2, .string ⟨#[]⟩]), (.agg #[.int .i64 2, .int .i64 0, .string ⟨#[97]⟩]), (.agg #[.int .i64 1, .int .i64 1, .string ⟨#[]⟩]), (.slice p0 2 2), undef, undef, (.agg #[.int .i64 2, .int .i64 0, .string ⟨#[97]⟩]), (.agg #[.int .i64 1, .int .i64 2, .string ⟨#[]⟩]), (.slice p1 2 2), undef, undef, (.agg #[.int .i64 2, .int .i64 0, .string ⟨#[98]⟩]), (.agg #[.int .i64 1, .int .i64 1, .string ⟨#[]⟩]), (.slice p2 2 2), undef, undef, undef, undef, undef, undef, undef, undef, undef, undef, undef, undef, undef, undef, undef, undef, undef, undef, undef, undef, undef, undef, undef, undef, undef, undef, undef, undef, undef, undef, undef, undef, undef, undef, undef, undef, undef, undef, undef, undef, undef, undef, undef, undef, undef, undef, undef, undef, undef, undef, undef, undef, undef, undef, undef, undef, undef, undef, undef, undef, undef, undef, undef, undef, undef, undef, undef, undef, undef, undef, undef, undef, undef, undef, undef, undef, undef, undef, undef, undef, undef, undef, undef, undef, undef, undef, undef, undef, undef, undef, undef, undef, undef, undef, undef, undef, undef, undef, undef, undef, undef, undef, undef, undef, undef, undef, undef, undef, undef, undef, undef, undef, undef, undef, undef, undef, undef, undef, undef, undef, undef, undef, undef, undef, undef, undef, undef, undef, undef, undef, undef, undef, undef, undef, undef, undef, undef, undef, undef, undef, undef, undef, undef, undef, undef, undef, undef, undef, undef, undef, undef, undef, undef, undef, undef, undef, undef, undef, undef, undef, undef, undef, undef, undef, undef], []⟩ ∧ IsVals w (.slice p0 2 2) tA1 ∧ IsVals w (.slice p1 2 2) tA2 ∧ IsVals w (.slice p2 2 2) tB1 ∧ Below w4.heap.size w4 w) ?mM012_0 (fun M012_0 => ?_)
  case mM012_0 =>
    rintro f d a w ⟨rfl, rfl, p0, p1, p2, rfl, v0, v1, v2, bW⟩
    as_aux_lemma =>
      have hHeld := HALL _ bW
      refine any_next (i := 3) (by kernel_rfl) rfl rfl (fun K hK => ?_)
      have nX := below_new w (.cells #[.int .i64 0, .int .i64 5] 86)
      have hX : IsSpans (w.alloc (.cells #[.int .i64 0, .int .i64 5] 86)) (.slice (some ⟨w.heap.size, 0, none⟩) 1 1) [(0, 5)] := IsSpans.of_rows (IsRows.lit w [(0, 5)] encsS (by decide))
      go_simp
      go_at_call 100
      refine (five_any _).mono ?_
      rintro e wY ⟨rfl, rfl⟩
      refine hK.out _ _ (HALL _ (bW.trans (nX.mono bW.size))) (fun hHeld => ?_)
      clear hK K
      try simp only [puts, gets]
      refine any_take (by kernel_rfl) (i := 4) (oi := _) (v := ?_) rfl rfl (by kernel_rfl) (by kernel_rfl) (by kernel_rfl) (fun _ _ _ h => h) (Or.inl ⟨by rfl, ?_⟩) hHeld ?_
      rotate_left
      · intro w' hSw; try dsimp only at hSw
        go_simp
        try with_reducible rfl
      try simp only [puts, gets]
      exact M012_1 _ _ _ _ ⟨rfl, rfl, _, _, _, _, rfl, v0.keep nX, v1.keep nX, v2.keep nX, hX, bW.trans (nX.mono bW.size)⟩
  refine any_merge (fun f d a w => f = 9 ∧ d = #[true, true, false, true, false, true, true, false, true, false, true, true, false, false, false, false, false] ∧ ∃ (q0 : Option Addr) (q1 : Option Addr), a = ⟨#[(.bool false), (.pointer (some ⟨g1, 0, none⟩)), (.pointer (some ⟨g2, 0, none⟩)), (.pointer (some ⟨g3, 0, none⟩)), (.pointer (some ⟨g4, 0, none⟩)), undef, undef, undef, undef, undef, undef, undef, undef, (.agg #[.int .i64 2, .int .i64 0, .string ⟨#[97]⟩]), (.agg #[.int .i64 2, .int .i64 0, .string ⟨#[98]⟩]), (.agg #[.int .i64 1, .int .i64 1, .string ⟨#[]⟩]), (.agg #[.int .i64 1, .int .i64 2, .string ⟨#[]⟩]), (.agg #[.int .i64 2, .int .i64 0, .string ⟨#[97]⟩]), (.agg #[.int .i64 1, .int .i64 1, .string ⟨#[]⟩]), undef, (.slice q0 1 1), undef, (.agg #[.int .i64 2, .int .i64 0, .string ⟨#[97]⟩]), (.agg #[.int .i64 1, .int .i64 2, .string ⟨#[]⟩]), undef, (.slice q1 1 1), undef, (.agg #[.int .i64 2, .int .i64 0, .string ⟨#[98]⟩]), (.agg #[.int .i64 1, .int .i64 1, .string ⟨#[]⟩]), undef, undef, undef, undef, undef, undef, undef, undef, undef, undef, undef, undef, undef, undef, undef, undef, undef, undef, undef, undef, undef, undef, undef, undef, undef, undef, undef, undef, undef, undef, undef, undef, undef, undef, undef, undef, undef, undef, undef, undef, undef, undef, undef, undef, undef, undef, undef, undef, undef, undef, undef, undef, undef, undef, undef, undef, undef, undef, undef, undef, undef, undef, undef, undef, undef, undef, undef, undef, undef, undef, undef, undef, undef, undef, undef, undef, undef, undef, undef, undef, undef, undef, undef, undef, undef, undef, undef, undef, undef, undef, undef, undef, undef, undef, undef, undef, undef, undef, undef, undef, undef, undef, undef, undef, undef, undef, undef, undef, undef, undef, undef, undef, undef, undef, undef, undef, undef, undef, undef, undef, undef, undef, undef, undef, undef, undef, undef, undef, undef, undef, undef, undef, undef, undef, undef, undef, undef, undef, undef, undef, undef, undef, undef, undef, undef, undef, undef, undef, undef, undef, undef, undef, undef, undef, undef, undef, undef, undef, undef, undef, undef, undef, undef, undef, undef, undef], []⟩ ∧ IsSpans w (.slice q0 1 1) [(0, 5)] ∧ IsSpans w (.slice q1 1 1) [(0, 5)] ∧ Below w4.heap.size w4 w) ?mM_2 (fun M_2 => ?_)
  case mM_2 =>
    rintro f d a w ⟨rfl, rfl, q0, q1, rfl, s0, s1, bW⟩
    as_aux_lemma =>
      have hHeld := HALL _ bW
      refine any_four (i := 2) (j := 7) (k := 12) (l := 13) (by kernel_rfl) rfl rfl rfl rfl rfl rfl rfl rfl (fun K hK => ?_) (fun K hK => ?_) (fun K hK => ?_) (fun K hK => ?_)
      · have nX := below_new w (.cells #[(.int .i64 2), (.int .i64 0), (.string ⟨#[97]⟩), (.int .i64 1), (.int .i64 1), (.string ⟨#[]⟩)] 58)
        have hX : IsVals (w.alloc (.cells #[(.int .i64 2), (.int .i64 0), (.string ⟨#[97]⟩), (.int .i64 1), (.int .i64 1), (.string ⟨#[]⟩)] 58)) (.slice (some ⟨w.heap.size, 0, none⟩) 2 2) tA1 := IsRows.lit w tA1 encsV (by decide)
        refine step_lit fitsV (by kernel_rfl) _ rfl _ rfl _ #[(.int .i64 2), (.int .i64 0), (.string ⟨#[97]⟩), (.int .i64 1), (.int .i64 1), (.string ⟨#[]⟩)] base58_2 (by decide) (by decide) [(0, .agg #[(.int .i64 2), (.int .i64 0), (.string ⟨#[97]⟩)]), (1, .agg #[(.int .i64 1), (.int .i64 1), (.string ⟨#[]⟩)])] (by kernel_rfl) (by kernel_rfl) ?_
        refine hK.out _ _ (HALL _ (bW.trans (nX.mono bW.size))) (fun hHeld => ?_)
        clear hK K
        try simp only [puts, gets]
        refine any_take (by kernel_rfl) (i := 4) (oi := _) (v := ?_) rfl rfl (by kernel_rfl) (by kernel_rfl) (by kernel_rfl) (fun _ _ _ h => h) (Or.inl ⟨by rfl, ?_⟩) hHeld ?_
        rotate_left
        · intro w' hSw; try dsimp only at hSw
          go_simp
          try with_reducible rfl
        try simp only [puts, gets]
        exact M0_2 _ _ _ _ ⟨rfl, rfl, _, _, _, rfl, hX, s0.keep nX, s1.keep nX, bW.trans (nX.mono bW.size)⟩
      · have nX := below_new w (.cells #[(.int .i64 2), (.int .i64 0), (.string ⟨#[97]⟩), (.int .i64 1), (.int .i64 2), (.string ⟨#[]⟩)] 58)
        have hX : IsVals (w.alloc (.cells #[(.int .i64 2), (.int .i64 0), (.string ⟨#[97]⟩), (.int .i64 1), (.int .i64 2), (.string ⟨#[]⟩)] 58)) (.slice (some ⟨w.heap.size, 0, none⟩) 2 2) tA2 := IsRows.lit w tA2 encsV (by decide)
        refine step_lit fitsV (by kernel_rfl) _ rfl _ rfl _ #[(.int .i64 2), (.int .i64 0), (.string ⟨#[97]⟩), (.int .i64 1), (.int .i64 2), (.string ⟨#[]⟩)] base58_2 (by decide) (by decide) [(0, .agg #[(.int .i64 2), (.int .i64 0), (.string ⟨#[97]⟩)]), (1, .agg #[(.int .i64 1), (.int .i64 2), (.string ⟨#[]⟩)])] (by kernel_rfl) (by kernel_rfl) ?_
        refine hK.out _ _ (HALL _ (bW.trans (nX.mono bW.size))) (fun hHeld => ?_)
        clear hK K
        try simp only [puts, gets]
        refine any_take (by kernel_rfl) (i := 9) (oi := _) (v := ?_) rfl rfl (by kernel_rfl) (by kernel_rfl) (by kernel_rfl) (fun _ _ _ h => h) (Or.inl ⟨by rfl, ?_⟩) hHeld ?_
        rotate_left
        · intro w' hSw; try dsimp only at hSw
          go_simp
          try with_reducible rfl
        try simp only [puts, gets]
        exact M1_2 _ _ _ _ ⟨rfl, rfl, _, _, _, rfl, hX, s0.keep nX, s1.keep nX, bW.trans (nX.mono bW.size)⟩
      · have nX := below_new w (.cells #[(.int .i64 2), (.int .i64 0), (.string ⟨#[98]⟩), (.int .i64 1), (.int .i64 1), (.string ⟨#[]⟩)] 58)
        have hX : IsVals (w.alloc (.cells #[(.int .i64 2), (.int .i64 0), (.string ⟨#[98]⟩), (.int .i64 1), (.int .i64 1), (.string ⟨#[]⟩)] 58)) (.slice (some ⟨w.heap.size, 0, none⟩) 2 2) tB1 := IsRows.lit w tB1 encsV (by decide)
        refine step_lit fitsV (by kernel_rfl) _ rfl _ rfl _ #[(.int .i64 2), (.int .i64 0), (.string ⟨#[98]⟩), (.int .i64 1), (.int .i64 1), (.string ⟨#[]⟩)] base58_2 (by decide) (by decide) [(0, .agg #[(.int .i64 2), (.int .i64 0), (.string ⟨#[98]⟩)]), (1, .agg #[(.int .i64 1), (.int .i64 1), (.string ⟨#[]⟩)])] (by kernel_rfl) (by kernel_rfl) ?_
        refine hK.out _ _ (HALL _ (bW.trans (nX.mono bW.size))) (fun hHeld => ?_)
        clear hK K
        try simp only [puts, gets]
        exact M2_2 _ _ _ _ ⟨rfl, rfl, _, _, _, rfl, hX, s0.keep nX, s1.keep nX, bW.trans (nX.mono bW.size)⟩
      · have nX := below_new w (.cells #[.int .i64 0, .int .i64 5] 86)
        have hX : IsSpans (w.alloc (.cells #[.int .i64 0, .int .i64 5] 86)) (.slice (some ⟨w.heap.size, 0, none⟩) 1 1) [(0, 5)] := IsSpans.of_rows (IsRows.lit w [(0, 5)] encsS (by decide))
        go_simp
        go_at_call 100
        refine (five_any _).mono ?_
        rintro e wY ⟨rfl, rfl⟩
        refine hK.out _ _ (HALL _ (bW.trans (nX.mono bW.size))) (fun hHeld => ?_)
        clear hK K
        try simp only [puts, gets]
        exact M_3 _ _ _ _ ⟨rfl, rfl, _, _, _, rfl, s0.keep nX, s1.keep nX, hX, bW.trans (nX.mono bW.size)⟩
  refine any_merge (fun f d a w => f = 8 ∧ d = #[true, true, true, true, true, true, true, false, false, false, true, true, false, false, false, false, false] ∧ ∃ (p0 : Option Addr) (q0 : Option Addr), a = ⟨#[(.bool false), (.pointer (some ⟨g1, 0, none⟩)), (.pointer (some ⟨g2, 0, none⟩)), (.pointer (some ⟨g3, 0, none⟩)), (.pointer (some ⟨g4, 0, none⟩)), undef, undef, undef, undef, undef, undef, undef, undef, (.agg #[.int .i64 2, .int .i64 0, .string ⟨#[97]⟩]), (.agg #[.int .i64 2, .int .i64 0, .string ⟨#[98]⟩]), (.agg #[.int .i64 1, .int .i64 1, .string ⟨#[]⟩]), (.agg #[.int .i64 1, .int .i64 2, .string ⟨#[]⟩]), (.agg #[.int .i64 2, .int .i64 0, .string ⟨#[97]⟩]), (.agg #[.int .i64 1, .int .i64 1, .string ⟨#[]⟩]), (.slice p0 2 2), (.slice q0 1 1), (.agg #[.slice p0 2 2, .slice q0 1 1]), (.agg #[.int .i64 2, .int .i64 0, .string ⟨#[97]⟩]), (.agg #[.int .i64 1, .int .i64 2, .string ⟨#[]⟩]), undef, undef, undef, (.agg #[.int .i64 2, .int .i64 0, .string ⟨#[98]⟩]), (.agg #[.int .i64 1, .int .i64 1, .string ⟨#[]⟩]), undef, undef, undef, undef, undef, undef, undef, undef, undef, undef, undef, undef, undef, undef, undef, undef, undef, undef, undef, undef, undef, undef, undef, undef, undef, undef, undef, undef, undef, undef, undef, undef, undef, undef, undef, undef, undef, undef, undef, undef, undef, undef, undef, undef, undef, undef, undef, undef, undef, undef, undef, undef, undef, undef, undef, undef, undef, undef, undef, undef, undef, undef, undef, undef, undef, undef, undef, undef, undef, undef, undef, undef, undef, undef, undef, undef, undef, undef, undef, undef, undef, undef, undef, undef, undef, undef, undef, undef, undef, undef, undef, undef, undef, undef, undef, undef, undef, undef, undef, undef, undef, undef, undef, undef, undef, undef, undef, undef, undef, undef, undef, undef, undef, undef, undef, undef, undef, undef, undef, undef, undef, undef, undef, undef, undef, undef, undef, undef, undef, undef, undef, undef, undef, undef, undef, undef, undef, undef, undef, undef, undef, undef, undef, undef, undef, undef, undef, undef, undef, undef, undef, undef, undef, undef, undef, undef, undef, undef, undef, undef, undef, undef, undef, undef, undef, undef], []⟩ ∧ IsVals w (.slice p0 2 2) tA1 ∧ IsSpans w (.slice q0 1 1) [(0, 5)] ∧ Below w4.heap.size w4 w) ?mM0_1 (fun M0_1 => ?_)
  case mM0_1 =>
    rintro f d a w ⟨rfl, rfl, p0, q0, rfl, v0, s0, bW⟩
    as_aux_lemma =>
      have hHeld := HALL _ bW
      refine any_three (i := 7) (j := 8) (k := 12) (by kernel_rfl) rfl rfl rfl rfl rfl rfl (fun K hK => ?_) (fun K hK => ?_) (fun K hK => ?_)
      · have nX := below_new w (.cells #[(.int .i64 2), (.int .i64 0), (.string ⟨#[97]⟩), (.int .i64 1), (.int .i64 2), (.string ⟨#[]⟩)] 58)
        have hX : IsVals (w.alloc (.cells #[(.int .i64 2), (.int .i64 0), (.string ⟨#[97]⟩), (.int .i64 1), (.int .i64 2), (.string ⟨#[]⟩)] 58)) (.slice (some ⟨w.heap.size, 0, none⟩) 2 2) tA2 := IsRows.lit w tA2 encsV (by decide)
        refine step_lit fitsV (by kernel_rfl) _ rfl _ rfl _ #[(.int .i64 2), (.int .i64 0), (.string ⟨#[97]⟩), (.int .i64 1), (.int .i64 2), (.string ⟨#[]⟩)] base58_2 (by decide) (by decide) [(0, .agg #[(.int .i64 2), (.int .i64 0), (.string ⟨#[97]⟩)]), (1, .agg #[(.int .i64 1), (.int .i64 2), (.string ⟨#[]⟩)])] (by kernel_rfl) (by kernel_rfl) ?_
        refine hK.out _ _ (HALL _ (bW.trans (nX.mono bW.size))) (fun hHeld => ?_)
        clear hK K
        try simp only [puts, gets]
        exact M01_1 _ _ _ _ ⟨rfl, rfl, _, _, _, rfl, v0.keep nX, hX, s0.keep nX, bW.trans (nX.mono bW.size)⟩
      · have nX := below_new w (.cells #[.int .i64 0, .int .i64 5] 86)
        have hX : IsSpans (w.alloc (.cells #[.int .i64 0, .int .i64 5] 86)) (.slice (some ⟨w.heap.size, 0, none⟩) 1 1) [(0, 5)] := IsSpans.of_rows (IsRows.lit w [(0, 5)] encsS (by decide))
        go_simp
        go_at_call 100
        refine (five_any _).mono ?_
        rintro e wY ⟨rfl, rfl⟩
        refine hK.out _ _ (HALL _ (bW.trans (nX.mono bW.size))) (fun hHeld => ?_)
        clear hK K
        try simp only [puts, gets]
        exact M0_2 _ _ _ _ ⟨rfl, rfl, _, _, _, rfl, v0.keep nX, s0.keep nX, hX, bW.trans (nX.mono bW.size)⟩
      · have nX := below_new w (.cells #[(.int .i64 2), (.int .i64 0), (.string ⟨#[98]⟩), (.int .i64 1), (.int .i64 1), (.string ⟨#[]⟩)] 58)
        have hX : IsVals (w.alloc (.cells #[(.int .i64 2), (.int .i64 0), (.string ⟨#[98]⟩), (.int .i64 1), (.int .i64 1), (.string ⟨#[]⟩)] 58)) (.slice (some ⟨w.heap.size, 0, none⟩) 2 2) tB1 := IsRows.lit w tB1 encsV (by decide)
        refine step_lit fitsV (by kernel_rfl) _ rfl _ rfl _ #[(.int .i64 2), (.int .i64 0), (.string ⟨#[98]⟩), (.int .i64 1), (.int .i64 1), (.string ⟨#[]⟩)] base58_2 (by decide) (by decide) [(0, .agg #[(.int .i64 2), (.int .i64 0), (.string ⟨#[98]⟩)]), (1, .agg #[(.int .i64 1), (.int .i64 1), (.string ⟨#[]⟩)])] (by kernel_rfl) (by kernel_rfl) ?_
        refine hK.out _ _ (HALL _ (bW.trans (nX.mono bW.size))) (fun hHeld => ?_)
        clear hK K
        try simp only [puts, gets]
        exact M02_1 _ _ _ _ ⟨rfl, rfl, _, _, _, rfl, v0.keep nX, hX, s0.keep nX, bW.trans (nX.mono bW.size)⟩
  refine any_merge (fun f d a w => f = 9 ∧ d = #[true, true, false, true, false, true, true, true, false, false, true, true, false, false, false, false, false] ∧ ∃ (p1 : Option Addr) (q0 : Option Addr), a = ⟨#[(.bool false), (.pointer (some ⟨g1, 0, none⟩)), (.pointer (some ⟨g2, 0, none⟩)), (.pointer (some ⟨g3, 0, none⟩)), (.pointer (some ⟨g4, 0, none⟩)), undef, undef, undef, undef, undef, undef, undef, undef, (.agg #[.int .i64 2, .int .i64 0, .string ⟨#[97]⟩]), (.agg #[.int .i64 2, .int .i64 0, .string ⟨#[98]⟩]), (.agg #[.int .i64 1, .int .i64 1, .string ⟨#[]⟩]), (.agg #[.int .i64 1, .int .i64 2, .string ⟨#[]⟩]), (.agg #[.int .i64 2, .int .i64 0, .string ⟨#[97]⟩]), (.agg #[.int .i64 1, .int .i64 1, .string ⟨#[]⟩]), undef, (.slice q0 1 1), undef, (.agg #[.int .i64 2, .int .i64 0, .string ⟨#[97]⟩]), (.agg #[.int .i64 1, .int .i64 2, .string ⟨#[]⟩]), (.slice p1 2 2), undef, undef, (.agg #[.int .i64 2, .int .i64 0, .string ⟨#[98]⟩]), (.agg #[.int .i64 1, .int .i64 1, .string ⟨#[]⟩]), undef, undef, undef, undef, undef, undef, undef, undef, undef, undef, undef, undef, undef, undef, undef, undef, undef, undef, undef, undef, undef, undef, undef, undef, undef, undef, undef, undef, undef, undef, undef, undef, undef, undef, undef, undef, undef, undef, undef, undef, undef, undef, undef, undef, undef, undef, undef, undef, undef, undef, undef, undef, undef, undef, undef, undef, undef, undef, undef, undef, undef, undef, undef, undef, undef, undef, undef, undef, undef, undef, undef, undef, undef, undef, undef, undef, undef, undef, undef, undef, undef, undef, undef, undef, undef, undef, undef, undef, undef, undef, undef, undef, undef, undef, undef, undef, undef, undef, undef, undef, undef, undef, undef, undef, undef, undef, undef, undef, undef, undef, undef, undef, undef, undef, undef, undef, undef, undef, undef, undef, undef, undef, undef, undef, undef, undef, undef, undef, undef, undef, undef, undef, undef, undef, undef, undef, undef, undef, undef, undef, undef, undef, undef, undef, undef, undef, undef, undef, undef, undef, undef, undef, undef, undef, undef, undef, undef, undef, undef, undef, undef, undef, undef, undef, undef, undef], []⟩ ∧ IsVals w (.slice p1 2 2) tA2 ∧ IsSpans w (.slice q0 1 1) [(0, 5)] ∧ Below w4.heap.size w4 w) ?mM1_1 (fun M1_1 => ?_)
  case mM1_1 =>
    rintro f d a w ⟨rfl, rfl, p1, q0, rfl, v1, s0, bW⟩
    as_aux_lemma =>
      have hHeld := HALL _ bW
      refine any_three (i := 2) (j := 8) (k := 12) (by kernel_rfl) rfl rfl rfl rfl rfl rfl (fun K hK => ?_) (fun K hK => ?_) (fun K hK => ?_)
      · have nX := below_new w (.cells #[(.int .i64 2), (.int .i64 0), (.string ⟨#[97]⟩), (.int .i64 1), (.int .i64 1), (.string ⟨#[]⟩)] 58)
        have hX : IsVals (w.alloc (.cells #[(.int .i64 2), (.int .i64 0), (.string ⟨#[97]⟩), (.int .i64 1), (.int .i64 1), (.string ⟨#[]⟩)] 58)) (.slice (some ⟨w.heap.size, 0, none⟩) 2 2) tA1 := IsRows.lit w tA1 encsV (by decide)
        refine step_lit fitsV (by kernel_rfl) _ rfl _ rfl _ #[(.int .i64 2), (.int .i64 0), (.string ⟨#[97]⟩), (.int .i64 1), (.int .i64 1), (.string ⟨#[]⟩)] base58_2 (by decide) (by decide) [(0, .agg #[(.int .i64 2), (.int .i64 0), (.string ⟨#[97]⟩)]), (1, .agg #[(.int .i64 1), (.int .i64 1), (.string ⟨#[]⟩)])] (by kernel_rfl) (by kernel_rfl) ?_
        refine hK.out _ _ (HALL _ (bW.trans (nX.mono bW.size))) (fun hHeld => ?_)
        clear hK K
        try simp only [puts, gets]
        refine any_take (by kernel_rfl) (i := 4) (oi := _) (v := ?_) rfl rfl (by kernel_rfl) (by kernel_rfl) (by kernel_rfl) (fun _ _ _ h => h) (Or.inl ⟨by rfl, ?_⟩) hHeld ?_
        rotate_left
        · intro w' hSw; try dsimp only at hSw
          go_simp
          try with_reducible rfl
        try simp only [puts, gets]
        exact M01_1 _ _ _ _ ⟨rfl, rfl, _, _, _, rfl, hX, v1.keep nX, s0.keep nX, bW.trans (nX.mono bW.size)⟩
      · have nX := below_new w (.cells #[.int .i64 0, .int .i64 5] 86)
        have hX : IsSpans (w.alloc (.cells #[.int .i64 0, .int .i64 5] 86)) (.slice (some ⟨w.heap.size, 0, none⟩) 1 1) [(0, 5)] := IsSpans.of_rows (IsRows.lit w [(0, 5)] encsS (by decide))
        go_simp
        go_at_call 100
        refine (five_any _).mono ?_
        rintro e wY ⟨rfl, rfl⟩
        refine hK.out _ _ (HALL _ (bW.trans (nX.mono bW.size))) (fun hHeld => ?_)
        clear hK K
        try simp only [puts, gets]
        refine any_take (by kernel_rfl) (i := 9) (oi := _) (v := ?_) rfl rfl (by kernel_rfl) (by kernel_rfl) (by kernel_rfl) (fun _ _ _ h => h) (Or.inl ⟨by rfl, ?_⟩) hHeld ?_
        rotate_left
        · intro w' hSw; try dsimp only at hSw
          go_simp
          try with_reducible rfl
        try simp only [puts, gets]
        exact M1_2 _ _ _ _ ⟨rfl, rfl, _, _, _, rfl, v1.keep nX, s0.keep nX, hX, bW.trans (nX.mono bW.size)⟩
      · have nX := below_new w (.cells #[(.int .i64 2), (.int .i64 0), (.string ⟨#[98]⟩), (.int .i64 1), (.int .i64 1), (.string ⟨#[]⟩)] 58)
        have hX : IsVals (w.alloc (.cells #[(.int .i64 2), (.int .i64 0), (.string ⟨#[98]⟩), (.int .i64 1), (.int .i64 1), (.string ⟨#[]⟩)] 58)) (.slice (some ⟨w.heap.size, 0, none⟩) 2 2) tB1 := IsRows.lit w tB1 encsV (by decide)
        refine step_lit fitsV (by kernel_rfl) _ rfl _ rfl _ #[(.int .i64 2), (.int .i64 0), (.string ⟨#[98]⟩), (.int .i64 1), (.int .i64 1), (.string ⟨#[]⟩)] base58_2 (by decide) (by decide) [(0, .agg #[(.int .i64 2), (.int .i64 0), (.string ⟨#[98]⟩)]), (1, .agg #[(.int .i64 1), (.int .i64 1), (.string ⟨#[]⟩)])] (by kernel_rfl) (by kernel_rfl) ?_
        refine hK.out _ _ (HALL _ (bW.trans (nX.mono bW.size))) (fun hHeld => ?_)
        clear hK K
        try simp only [puts, gets]
        exact M12_1 _ _ _ _ ⟨rfl, rfl, _, _, _, rfl, v1.keep nX, hX, s0.keep nX, bW.trans (nX.mono bW.size)⟩
  refine any_merge (fun f d a w => f = 9 ∧ d = #[true, true, false, true, false, true, true, false, false, false, true, true, true, false, false, false, false] ∧ ∃ (p2 : Option Addr) (q0 : Option Addr), a = ⟨#[(.bool false), (.pointer (some ⟨g1, 0, none⟩)), (.pointer (some ⟨g2, 0, none⟩)), (.pointer (some ⟨g3, 0, none⟩)), (.pointer (some ⟨g4, 0, none⟩)), undef, undef, undef, undef, undef, undef, undef, undef, (.agg #[.int .i64 2, .int .i64 0, .string ⟨#[97]⟩]), (.agg #[.int .i64 2, .int .i64 0, .string ⟨#[98]⟩]), (.agg #[.int .i64 1, .int .i64 1, .string ⟨#[]⟩]), (.agg #[.int .i64 1, .int .i64 2, .string ⟨#[]⟩]), (.agg #[.int .i64 2, .int .i64 0, .string ⟨#[97]⟩]), (.agg #[.int .i64 1, .int .i64 1, .string ⟨#[]⟩]), undef, (.slice q0 1 1), undef, (.agg #[.int .i64 2, .int .i64 0, .string ⟨#[97]⟩]), (.agg #[.int .i64 1, .int .i64 2, .string ⟨#[]⟩]), undef, undef, undef, (.agg #[.int .i64 2, .int .i64 0, .string ⟨#[98]⟩]), (.agg #[.int .i64 1, .int .i64 1, .string ⟨#[]⟩]), (.slice p2 2 2), undef, undef, undef, undef, undef, undef, undef, undef, undef, undef, undef, undef, undef, undef, undef, undef, undef, undef, undef, undef, undef, undef, undef, undef, undef, undef, undef, undef, undef, undef, undef, undef, undef, undef, undef, undef, undef, undef, undef, undef, undef, undef, undef, undef, undef, undef, undef, undef, undef, undef, undef, undef, undef, undef, undef, undef, undef, undef, undef, undef, undef, undef, undef, undef, undef, undef, undef, undef, undef, undef, undef, undef, undef, undef, undef, undef, undef, undef, undef, undef, undef, undef, undef, undef, undef, undef, undef, undef, undef, undef, undef, undef, undef, undef, undef, undef, undef, undef, undef, undef, undef, undef, undef, undef, undef, undef, undef, undef, undef, undef, undef, undef, undef, undef, undef, undef, undef, undef, undef, undef, undef, undef, undef, undef, undef, undef, undef, undef, undef, undef, undef, undef, undef, undef, undef, undef, undef, undef, undef, undef, undef, undef, undef, undef, undef, undef, undef, undef, undef, undef, undef, undef, undef, undef, undef, undef, undef, undef, undef, undef, undef, undef, undef, undef, undef], []⟩ ∧ IsVals w (.slice p2 2 2) tB1 ∧ IsSpans w (.slice q0 1 1) [(0, 5)] ∧ Below w4.heap.size w4 w) ?mM2_1 (fun M2_1 => ?_)
  case mM2_1 =>
    rintro f d a w ⟨rfl, rfl, p2, q0, rfl, v2, s0, bW⟩
    as_aux_lemma =>
      have hHeld := HALL _ bW
      refine any_three (i := 2) (j := 7) (k := 8) (by kernel_rfl) rfl rfl rfl rfl rfl rfl (fun K hK => ?_) (fun K hK => ?_) (fun K hK => ?_)
      · have nX := below_new w (.cells #[(.int .i64 2), (.int .i64 0), (.string ⟨#[97]⟩), (.int .i64 1), (.int .i64 1), (.string ⟨#[]⟩)] 58)
        have hX : IsVals (w.alloc (.cells #[(.int .i64 2), (.int .i64 0), (.string ⟨#[97]⟩), (.int .i64 1), (.int .i64 1), (.string ⟨#[]⟩)] 58)) (.slice (some ⟨w.heap.size, 0, none⟩) 2 2) tA1 := IsRows.lit w tA1 encsV (by decide)
        refine step_lit fitsV (by kernel_rfl) _ rfl _ rfl _ #[(.int .i64 2), (.int .i64 0), (.string ⟨#[97]⟩), (.int .i64 1), (.int .i64 1), (.string ⟨#[]⟩)] base58_2 (by decide) (by decide) [(0, .agg #[(.int .i64 2), (.int .i64 0), (.string ⟨#[97]⟩)]), (1, .agg #[(.int .i64 1), (.int .i64 1), (.string ⟨#[]⟩)])] (by kernel_rfl) (by kernel_rfl) ?_
        refine hK.out _ _ (HALL _ (bW.trans (nX.mono bW.size))) (fun hHeld => ?_)
        clear hK K
        try simp only [puts, gets]
        refine any_take (by kernel_rfl) (i := 4) (oi := _) (v := ?_) rfl rfl (by kernel_rfl) (by kernel_rfl) (by kernel_rfl) (fun _ _ _ h => h) (Or.inl ⟨by rfl, ?_⟩) hHeld ?_
        rotate_left
        · intro w' hSw; try dsimp only at hSw
          go_simp
          try with_reducible rfl
        try simp only [puts, gets]
        exact M02_1 _ _ _ _ ⟨rfl, rfl, _, _, _, rfl, hX, v2.keep nX, s0.keep nX, bW.trans (nX.mono bW.size)⟩
      · have nX := below_new w (.cells #[(.int .i64 2), (.int .i64 0), (.string ⟨#[97]⟩), (.int .i64 1), (.int .i64 2), (.string ⟨#[]⟩)] 58)
        have hX : IsVals (w.alloc (.cells #[(.int .i64 2), (.int .i64 0), (.string ⟨#[97]⟩), (.int .i64 1), (.int .i64 2), (.string ⟨#[]⟩)] 58)) (.slice (some ⟨w.heap.size, 0, none⟩) 2 2) tA2 := IsRows.lit w tA2 encsV (by decide)
        refine step_lit fitsV (by kernel_rfl) _ rfl _ rfl _ #[(.int .i64 2), (.int .i64 0), (.string ⟨#[97]⟩), (.int .i64 1), (.int .i64 2), (.string ⟨#[]⟩)] base58_2 (by decide) (by decide) [(0, .agg #[(.int .i64 2), (.int .i64 0), (.string ⟨#[97]⟩)]), (1, .agg #[(.int .i64 1), (.int .i64 2), (.string ⟨#[]⟩)])] (by kernel_rfl) (by kernel_rfl) ?_
        refine hK.out _ _ (HALL _ (bW.trans (nX.mono bW.size))) (fun hHeld => ?_)
        clear hK K
        try simp only [puts, gets]
        exact M12_1 _ _ _ _ ⟨rfl, rfl, _, _, _, rfl, hX, v2.keep nX, s0.keep nX, bW.trans (nX.mono bW.size)⟩
      · have nX := below_new w (.cells #[.int .i64 0, .int .i64 5] 86)
        have hX : IsSpans (w.alloc (.cells #[.int .i64 0, .int .i64 5] 86)) (.slice (some ⟨w.heap.size, 0, none⟩) 1 1) [(0, 5)] := IsSpans.of_rows (IsRows.lit w [(0, 5)] encsS (by decide))
        go_simp
        go_at_call 100
        refine (five_any _).mono ?_
        rintro e wY ⟨rfl, rfl⟩
        refine hK.out _ _ (HALL _ (bW.trans (nX.mono bW.size))) (fun hHeld => ?_)
        clear hK K
        try simp only [puts, gets]
        exact M2_2 _ _ _ _ ⟨rfl, rfl, _, _, _, rfl, v2.keep nX, s0.keep nX, hX, bW.trans (nX.mono bW.size)⟩
  refine any_merge (fun f d a w => f = 9 ∧ d = #[true, true, true, false, false, true, true, true, false, false, true, true, false, false, false, false, false] ∧ ∃ (p0 : Option Addr) (p1 : Option Addr), a = ⟨#[(.bool false), (.pointer (some ⟨g1, 0, none⟩)), (.pointer (some ⟨g2, 0, none⟩)), (.pointer (some ⟨g3, 0, none⟩)), (.pointer (some ⟨g4, 0, none⟩)), undef, undef, undef, undef, undef, undef, undef, undef, (.agg #[.int .i64 2, .int .i64 0, .string ⟨#[97]⟩]), (.agg #[.int .i64 2, .int .i64 0, .string ⟨#[98]⟩]), (.agg #[.int .i64 1, .int .i64 1, .string ⟨#[]⟩]), (.agg #[.int .i64 1, .int .i64 2, .string ⟨#[]⟩]), (.agg #[.int .i64 2, .int .i64 0, .string ⟨#[97]⟩]), (.agg #[.int .i64 1, .int .i64 1, .string ⟨#[]⟩]), (.slice p0 2 2), undef, undef, (.agg #[.int .i64 2, .int .i64 0, .string ⟨#[97]⟩]), (.agg #[.int .i64 1, .int .i64 2, .string ⟨#[]⟩]), (.slice p1 2 2), undef, undef, (.agg #[.int .i64 2, .int .i64 0, .string ⟨#[98]⟩]), (.agg #[.int .i64 1, .int .i64 1, .string ⟨#[]⟩]), undef, undef, undef, undef, undef, undef, undef, undef, undef, undef, undef, undef, undef, undef, undef, undef, undef, undef, undef, undef, undef, undef, undef, undef, undef, undef, undef, undef, undef, undef, undef, undef, undef, undef, undef, undef, undef, undef, undef, undef, undef, undef, undef, undef, undef, undef, undef, undef, undef, undef, undef, undef, undef, undef, undef, undef, undef, undef, undef, undef, undef, undef, undef, undef, undef, undef, undef, undef, undef, undef, undef, undef, undef, undef, undef, undef, undef, undef, undef, undef, undef, undef, undef, undef, undef, undef, undef, undef, undef, undef, undef, undef, undef, undef, undef, undef, undef, undef, undef, undef, undef, undef, undef, undef, undef, undef, undef, undef, undef, undef, undef, undef, undef, undef, undef, undef, undef, undef, undef, undef, undef, undef, undef, undef, undef, undef, undef, undef, undef, undef, undef, undef, undef, undef, undef, undef, undef, undef, undef, undef, undef, undef, undef, undef, undef, undef, undef, undef, undef, undef, undef, undef, undef, undef, undef, undef, undef, undef, undef, undef, undef, undef, undef, undef, undef, undef], []⟩ ∧ IsVals w (.slice p0 2 2) tA1 ∧ IsVals w (.slice p1 2 2) tA2 ∧ Below w4.heap.size w4 w) ?mM01_0 (fun M01_0 => ?_)
  case mM01_0 =>
    rintro f d a w ⟨rfl, rfl, p0, p1, rfl, v0, v1, bW⟩
    as_aux_lemma =>
      have hHeld := HALL _ bW
      refine any_two (i := 3) (j := 12) (by kernel_rfl) rfl rfl rfl rfl (fun K hK => ?_) (fun K hK => ?_)
      · have nX := below_new w (.cells #[.int .i64 0, .int .i64 5] 86)
        have hX : IsSpans (w.alloc (.cells #[.int .i64 0, .int .i64 5] 86)) (.slice (some ⟨w.heap.size, 0, none⟩) 1 1) [(0, 5)] := IsSpans.of_rows (IsRows.lit w [(0, 5)] encsS (by decide))
        go_simp
        go_at_call 100
        refine (five_any _).mono ?_
        rintro e wY ⟨rfl, rfl⟩
        refine hK.out _ _ (HALL _ (bW.trans (nX.mono bW.size))) (fun hHeld => ?_)
        clear hK K
        try simp only [puts, gets]
        refine any_take (by kernel_rfl) (i := 4) (oi := _) (v := ?_) rfl rfl (by kernel_rfl) (by kernel_rfl) (by kernel_rfl) (fun _ _ _ h => h) (Or.inl ⟨by rfl, ?_⟩) hHeld ?_
        rotate_left
        · intro w' hSw; try dsimp only at hSw
          go_simp
          try with_reducible rfl
        try simp only [puts, gets]
        exact M01_1 _ _ _ _ ⟨rfl, rfl, _, _, _, rfl, v0.keep nX, v1.keep nX, hX, bW.trans (nX.mono bW.size)⟩
      · have nX := below_new w (.cells #[(.int .i64 2), (.int .i64 0), (.string ⟨#[98]⟩), (.int .i64 1), (.int .i64 1), (.string ⟨#[]⟩)] 58)
        have hX : IsVals (w.alloc (.cells #[(.int .i64 2), (.int .i64 0), (.string ⟨#[98]⟩), (.int .i64 1), (.int .i64 1), (.string ⟨#[]⟩)] 58)) (.slice (some ⟨w.heap.size, 0, none⟩) 2 2) tB1 := IsRows.lit w tB1 encsV (by decide)
        refine step_lit fitsV (by kernel_rfl) _ rfl _ rfl _ #[(.int .i64 2), (.int .i64 0), (.string ⟨#[98]⟩), (.int .i64 1), (.int .i64 1), (.string ⟨#[]⟩)] base58_2 (by decide) (by decide) [(0, .agg #[(.int .i64 2), (.int .i64 0), (.string ⟨#[98]⟩)]), (1, .agg #[(.int .i64 1), (.int .i64 1), (.string ⟨#[]⟩)])] (by kernel_rfl) (by kernel_rfl) ?_
        refine hK.out _ _ (HALL _ (bW.trans (nX.mono bW.size))) (fun hHeld => ?_)
        clear hK K
        try simp only [puts, gets]
        exact M012_0 _ _ _ _ ⟨rfl, rfl, _, _, _, rfl, v0.keep nX, v1.keep nX, hX, bW.trans (nX.mono bW.size)⟩
  refine any_merge (fun f d a w => f = 9 ∧ d = #[true, true, true, false, false, true, true, false, false, false, true, true, true, false, false, false, false] ∧ ∃ (p0 : Option Addr) (p2 : Option Addr), a = ⟨#[(.bool false), (.pointer (some ⟨g1, 0, none⟩)), (.pointer (some ⟨g2, 0, none⟩)), (.pointer (some ⟨g3, 0, none⟩)), (.pointer (some ⟨g4, 0, none⟩)), undef, undef, undef, undef, undef, undef, undef, undef, (.agg #[.int .i64 2, .int .i64 0, .string ⟨#[97]⟩]), (.agg #[.int .i64 2, .int .i64 0, .string ⟨#[98]⟩]), (.agg #[.int .i64 1, .int .i64 1, .string ⟨#[]⟩]), (.agg #[.int .i64 1, .int .i64 2, .string ⟨#[]⟩]), (.agg #[.int .i64 2, .int .i64 0, .string ⟨#[97]⟩]), (.agg #[.int .i64 1, .int .i64 1, .string ⟨#[]⟩]), (.slice p0 2 2), undef, undef, (.agg #[.int .i64 2, .int .i64 0, .string ⟨#[97]⟩]), (.agg #[.int .i64 1, .int .i64 2, .string ⟨#[]⟩]), undef, undef, undef, (.agg #[.int .i64 2, .int .i64 0, .string ⟨#[98]⟩]), (.agg #[.int .i64 1, .int .i64 1, .string ⟨#[]⟩]), (.slice p2 2 2), undef, undef, undef, undef, undef, undef, undef, undef, undef, undef, undef, undef, undef, undef, undef, undef, undef, undef, undef, undef, undef, undef, undef, undef, undef, undef, undef, undef, undef, undef, undef, undef, undef, undef, undef, undef, undef, undef, undef, undef, undef, undef, undef, undef, undef, undef, undef, undef, undef, undef, undef, undef, undef, undef, undef, undef, undef, undef, undef, undef, undef, undef, undef, undef, undef, undef, undef, undef, undef, undef, undef, undef, undef, undef, undef, undef, undef, undef, undef, undef, undef, undef, undef, undef, undef, undef, undef, undef, undef, undef, undef, undef, undef, undef, undef, undef, undef, undef, undef, undef, undef, undef, undef, undef, undef, undef, undef, undef, undef, undef, undef, undef, undef, undef, undef, undef, undef, undef, undef, undef, undef, undef, undef, undef, undef, undef, undef, undef, undef, undef, undef, undef, undef, undef, undef, undef, undef, undef, undef, undef, undef, undef, undef, undef, undef, undef, undef, undef, undef, undef, undef, undef, undef, undef, undef, undef, undef, undef, undef, undef, undef, undef, undef, undef, undef], []⟩ ∧ IsVals w (.slice p0 2 2) tA1 ∧ IsVals w (.slice p2 2 2) tB1 ∧ Below w4.heap.size w4 w) ?mM02_0 (fun M02_0 => ?_)
  case mM02_0 =>
    rintro f d a w ⟨rfl, rfl, p0, p2, rfl, v0, v2, bW⟩
    as_aux_lemma =>
      have hHeld := HALL _ bW
      refine any_two (i := 3) (j := 7) (by kernel_rfl) rfl rfl rfl rfl (fun K hK => ?_) (fun K hK => ?_)
      · have nX := below_new w (.cells #[.int .i64 0, .int .i64 5] 86)
        have hX : IsSpans (w.alloc (.cells #[.int .i64 0, .int .i64 5] 86)) (.slice (some ⟨w.heap.size, 0, none⟩) 1 1) [(0, 5)] := IsSpans.of_rows (IsRows.lit w [(0, 5)] encsS (by decide))
        go_simp
        go_at_call 100
        refine (five_any _).mono ?_
        rintro e wY ⟨rfl, rfl⟩
        refine hK.out _ _ (HALL _ (bW.trans (nX.mono bW.size))) (fun hHeld => ?_)
        clear hK K
        try simp only [puts, gets]
        refine any_take (by kernel_rfl) (i := 4) (oi := _) (v := ?_) rfl rfl (by kernel_rfl) (by kernel_rfl) (by kernel_rfl) (fun _ _ _ h => h) (Or.inl ⟨by rfl, ?_⟩) hHeld ?_
        rotate_left
        · intro w' hSw; try dsimp only at hSw
          go_simp
          try with_reducible rfl
        try simp only [puts, gets]
        exact M02_1 _ _ _ _ ⟨rfl, rfl, _, _, _, rfl, v0.keep nX, v2.keep nX, hX, bW.trans (nX.mono bW.size)⟩
      · have nX := below_new w (.cells #[(.int .i64 2), (.int .i64 0), (.string ⟨#[97]⟩), (.int .i64 1), (.int .i64 2), (.string ⟨#[]⟩)] 58)
        have hX : IsVals (w.alloc (.cells #[(.int .i64 2), (.int .i64 0), (.string ⟨#[97]⟩), (.int .i64 1), (.int .i64 2), (.string ⟨#[]⟩)] 58)) (.slice (some ⟨w.heap.size, 0, none⟩) 2 2) tA2 := IsRows.lit w tA2 encsV (by decide)
        refine step_lit fitsV (by kernel_rfl) _ rfl _ rfl _ #[(.int .i64 2), (.int .i64 0), (.string ⟨#[97]⟩), (.int .i64 1), (.int .i64 2), (.string ⟨#[]⟩)] base58_2 (by decide) (by decide) [(0, .agg #[(.int .i64 2), (.int .i64 0), (.string ⟨#[97]⟩)]), (1, .agg #[(.int .i64 1), (.int .i64 2), (.string ⟨#[]⟩)])] (by kernel_rfl) (by kernel_rfl) ?_
        refine hK.out _ _ (HALL _ (bW.trans (nX.mono bW.size))) (fun hHeld => ?_)
        clear hK K
        try simp only [puts, gets]
        exact M012_0 _ _ _ _ ⟨rfl, rfl, _, _, _, rfl, v0.keep nX, hX, v2.keep nX, bW.trans (nX.mono bW.size)⟩
  refine any_merge (fun f d a w => f = 9 ∧ d = #[true, true, false, false, false, true, true, true, false, false, true, true, true, false, false, false, false] ∧ ∃ (p1 : Option Addr) (p2 : Option Addr), a = ⟨#[(.bool false), (.pointer (some ⟨g1, 0, none⟩)), (.pointer (some ⟨g2, 0, none⟩)), (.pointer (some ⟨g3, 0, none⟩)), (.pointer (some ⟨g4, 0, none⟩)), undef, undef, undef, undef, undef, undef, undef, undef, (.agg #[.int .i64 2, .int .i64 0, .string ⟨#[97]⟩]), (.agg #[.int .i64 2, .int .i64 0, .string ⟨#[98]⟩]), (.agg #[.int .i64 1, .int .i64 1, .string ⟨#[]⟩]), (.agg #[.int .i64 1, .int .i64 2, .string ⟨#[]⟩]), (.agg #[.int .i64 2, .int .i64 0, .string ⟨#[97]⟩]), (.agg #[.int .i64 1, .int .i64 1, .string ⟨#[]⟩]), undef, undef, undef, (.agg #[.int .i64 2, .int .i64 0, .string ⟨#[97]⟩]), (.agg #[.int .i64 1, .int .i64 2, .string ⟨#[]⟩]), (.slice p1 2 2), undef, undef, (.agg #[.int .i64 2, .int .i64 0, .string ⟨#[98]⟩]), (.agg #[.int .i64 1, .int .i64 1, .string ⟨#[]⟩]), (.slice p2 2 2), undef, undef, undef, undef, undef, undef, undef, undef, undef, undef, undef, undef, undef, undef, undef, undef, undef, undef, undef, undef, undef, undef, undef, undef, undef, undef, undef, undef, undef, undef, undef, undef, undef, undef, undef, undef, undef, undef, undef, undef, undef, undef, undef, undef, undef, undef, undef, undef, undef, undef, undef, undef, undef, undef, undef, undef, undef, undef, undef, undef, undef, undef, undef, undef, undef, undef, undef, undef, undef, undef, undef, undef, undef, undef, undef, undef, undef, undef, undef, undef, undef, undef, undef, undef, undef, undef, undef, undef, undef, undef, undef, undef, undef, undef, undef, undef, undef, undef, undef, undef, undef, undef, undef, undef, undef, undef, undef, undef, undef, undef, undef, undef, undef, undef, undef, undef, undef, undef, undef, undef, undef, undef, undef, undef, undef, undef, undef, undef, undef, undef, undef, undef, undef, undef, undef, undef, undef, undef, undef, undef, undef, undef, undef, undef, undef, undef, undef, undef, undef, undef, undef, undef, undef, undef, undef, undef, undef, undef, undef, undef, undef, undef, undef, undef, undef], []⟩ ∧ IsVals w (.slice p1 2 2) tA2 ∧ IsVals w (.slice p2 2 2) tB1 ∧ Below w4.heap.size w4 w) ?mM12_0 (fun M12_0 => ?_)
  case mM12_0 =>
    rintro f d a w ⟨rfl, rfl, p1, p2, rfl, v1, v2, bW⟩
    as_aux_lemma =>
      have hHeld := HALL _ bW
      refine any_two (i := 2) (j := 3) (by kernel_rfl) rfl rfl rfl rfl (fun K hK => ?_) (fun K hK => ?_)
      · have nX := below_new w (.cells #[(.int .i64 2), (.int .i64 0), (.string ⟨#[97]⟩), (.int .i64 1), (.int .i64 1), (.string ⟨#[]⟩)] 58)
        have hX : IsVals (w.alloc (.cells #[(.int .i64 2), (.int .i64 0), (.string ⟨#[97]⟩), (.int .i64 1), (.int .i64 1), (.string ⟨#[]⟩)] 58)) (.slice (some ⟨w.heap.size, 0, none⟩) 2 2) tA1 := IsRows.lit w tA1 encsV (by decide)
        refine step_lit fitsV (by kernel_rfl) _ rfl _ rfl _ #[(.int .i64 2), (.int .i64 0), (.string ⟨#[97]⟩), (.int .i64 1), (.int .i64 1), (.string ⟨#[]⟩)] base58_2 (by decide) (by decide) [(0, .agg #[(.int .i64 2), (.int .i64 0), (.string ⟨#[97]⟩)]), (1, .agg #[(.int .i64 1), (.int .i64 1), (.string ⟨#[]⟩)])] (by kernel_rfl) (by kernel_rfl) ?_
        refine hK.out _ _ (HALL _ (bW.trans (nX.mono bW.size))) (fun hHeld => ?_)
        clear hK K
        try simp only [puts, gets]
        exact M012_0 _ _ _ _ ⟨rfl, rfl, _, _, _, rfl, hX, v1.keep nX, v2.keep nX, bW.trans (nX.mono bW.size)⟩
      · have nX := below_new w (.cells #[.int .i64 0, .int .i64 5] 86)
        have hX : IsSpans (w.alloc (.cells #[.int .i64 0, .int .i64 5] 86)) (.slice (some ⟨w.heap.size, 0, none⟩) 1 1) [(0, 5)] := IsSpans.of_rows (IsRows.lit w [(0, 5)] encsS (by decide))
        go_simp
        go_at_call 100
        refine (five_any _).mono ?_
        rintro e wY ⟨rfl, rfl⟩
        refine hK.out _ _ (HALL _ (bW.trans (nX.mono bW.size))) (fun hHeld => ?_)
        clear hK K
        try simp only [puts, gets]
        exact M12_1 _ _ _ _ ⟨rfl, rfl, _, _, _, rfl, v1.keep nX, v2.keep nX, hX, bW.trans (nX.mono bW.size)⟩
  refine any_merge (fun f d a w => f = 10 ∧ d = #[true, true, false, true, false, true, true, false, false, false, true, true, false, false, false, false, false] ∧ ∃ (q0 : Option Addr), a = ⟨#[(.bool false), (.pointer (some ⟨g1, 0, none⟩)), (.pointer (some ⟨g2, 0, none⟩)), (.pointer (some ⟨g3, 0, none⟩)), (.pointer (some ⟨g4, 0, none⟩)), undef, undef, undef, undef, undef, undef, undef, undef, (.agg #[.int .i64 2, .int .i64 0, .string ⟨#[97]⟩]), (.agg #[.int .i64 2, .int .i64 0, .string ⟨#[98]⟩]), (.agg #[.int .i64 1, .int .i64 1, .string ⟨#[]⟩]), (.agg #[.int .i64 1, .int .i64 2, .string ⟨#[]⟩]), (.agg #[.int .i64 2, .int .i64 0, .string ⟨#[97]⟩]), (.agg #[.int .i64 1, .int .i64 1, .string ⟨#[]⟩]), undef, (.slice q0 1 1), undef, (.agg #[.int .i64 2, .int .i64 0, .string ⟨#[97]⟩]), (.agg #[.int .i64 1, .int .i64 2, .string ⟨#[]⟩]), undef, undef, undef, (.agg #[.int .i64 2, .int .i64 0, .string ⟨#[98]⟩]), (.agg #[.int .i64 1, .int .i64 1, .string ⟨#[]⟩]), undef, undef, undef, undef, undef, undef, undef, undef, undef, undef, undef, undef, undef, undef, undef, undef, undef, undef, undef, undef, undef, undef, undef, undef, undef, undef, undef, undef, undef, undef, undef, undef, undef, undef, undef, undef, undef, undef, undef, undef, undef, undef, undef, undef, undef, undef, undef, undef, undef, undef, undef, undef, undef, undef, undef, undef, undef, undef, undef, undef, undef, undef, undef, undef, undef, undef, undef, undef, undef, undef, undef, undef, undef, undef, undef, undef, undef, undef, undef, undef, undef, undef, undef, undef, undef, undef, undef, undef, undef, undef, undef, undef, undef, undef, undef, undef, undef, undef, undef, undef, undef, undef, undef, undef, undef, undef, undef, undef, undef, undef, undef, undef, undef, undef, undef, undef, undef, undef, undef, undef, undef, undef, undef, undef, undef, undef, undef, undef, undef, undef, undef, undef, undef, undef, undef, undef, undef, undef, undef, undef, undef, undef, undef, undef, undef, undef, undef, undef, undef, undef, undef, undef, undef, undef, undef, undef, undef, undef, undef, undef, undef, undef, undef, undef, undef, undef], []⟩ ∧ IsSpans w (.slice q0 1 1) [(0, 5)] ∧ Below w4.heap.size w4 w) ?mM_1 (fun M_1 => ?_)
  case mM_1 =>
    rintro f d a w ⟨rfl, rfl, q0, rfl, s0, bW⟩
    as_aux_lemma =>
      have hHeld := HALL _ bW
      refine any_four (i := 2) (j := 7) (k := 8) (l := 12) (by kernel_rfl) rfl rfl rfl rfl rfl rfl rfl rfl (fun K hK => ?_) (fun K hK => ?_) (fun K hK => ?_) (fun K hK => ?_)
      · have nX := below_new w (.cells #[(.int .i64 2), (.int .i64 0), (.string ⟨#[97]⟩), (.int .i64 1), (.int .i64 1), (.string ⟨#[]⟩)] 58)
        have hX : IsVals (w.alloc (.cells #[(.int .i64 2), (.int .i64 0), (.string ⟨#[97]⟩), (.int .i64 1), (.int .i64 1), (.string ⟨#[]⟩)] 58)) (.slice (some ⟨w.heap.size, 0, none⟩) 2 2) tA1 := IsRows.lit w tA1 encsV (by decide)
        refine step_lit fitsV (by kernel_rfl) _ rfl _ rfl _ #[(.int .i64 2), (.int .i64 0), (.string ⟨#[97]⟩), (.int .i64 1), (.int .i64 1), (.string ⟨#[]⟩)] base58_2 (by decide) (by decide) [(0, .agg #[(.int .i64 2), (.int .i64 0), (.string ⟨#[97]⟩)]), (1, .agg #[(.int .i64 1), (.int .i64 1), (.string ⟨#[]⟩)])] (by kernel_rfl) (by kernel_rfl) ?_
        refine hK.out _ _ (HALL _ (bW.trans (nX.mono bW.size))) (fun hHeld => ?_)
        clear hK K
        try simp only [puts, gets]
        refine any_take (by kernel_rfl) (i := 4) (oi := _) (v := ?_) rfl rfl (by kernel_rfl) (by kernel_rfl) (by kernel_rfl) (fun _ _ _ h => h) (Or.inl ⟨by rfl, ?_⟩) hHeld ?_
        rotate_left
        · intro w' hSw; try dsimp only at hSw
          go_simp
          try with_reducible rfl
        try simp only [puts, gets]
        exact M0_1 _ _ _ _ ⟨rfl, rfl, _, _, rfl, hX, s0.keep nX, bW.trans (nX.mono bW.size)⟩
      · have nX := below_new w (.cells #[(.int .i64 2), (.int .i64 0), (.string ⟨#[97]⟩), (.int .i64 1), (.int .i64 2), (.string ⟨#[]⟩)] 58)
        have hX : IsVals (w.alloc (.cells #[(.int .i64 2), (.int .i64 0), (.string ⟨#[97]⟩), (.int .i64 1), (.int .i64 2), (.string ⟨#[]⟩)] 58)) (.slice (some ⟨w.heap.size, 0, none⟩) 2 2) tA2 := IsRows.lit w tA2 encsV (by decide)
        refine step_lit fitsV (by kernel_rfl) _ rfl _ rfl _ #[(.int .i64 2), (.int .i64 0), (.string ⟨#[97]⟩), (.int .i64 1), (.int .i64 2), (.string ⟨#[]⟩)] base58_2 (by decide) (by decide) [(0, .agg #[(.int .i64 2), (.int .i64 0), (.string ⟨#[97]⟩)]), (1, .agg #[(.int .i64 1), (.int .i64 2), (.string ⟨#[]⟩)])] (by kernel_rfl) (by kernel_rfl) ?_
        refine hK.out _ _ (HALL _ (bW.trans (nX.mono bW.size))) (fun hHeld => ?_)
        clear hK K
        try simp only [puts, gets]
        exact M1_1 _ _ _ _ ⟨rfl, rfl, _, _, rfl, hX, s0.keep nX, bW.trans (nX.mono bW.size)⟩
      · have nX := below_new w (.cells #[.int .i64 0, .int .i64 5] 86)
        have hX : IsSpans (w.alloc (.cells #[.int .i64 0, .int .i64 5] 86)) (.slice (some ⟨w.heap.size, 0, none⟩) 1 1) [(0, 5)] := IsSpans.of_rows (IsRows.lit w [(0, 5)] encsS (by decide))
        go_simp
        go_at_call 100
        refine (five_any _).mono ?_
        rintro e wY ⟨rfl, rfl⟩
        refine hK.out _ _ (HALL _ (bW.trans (nX.mono bW.size))) (fun hHeld => ?_)
        clear hK K
        try simp only [puts, gets]
        exact M_2 _ _ _ _ ⟨rfl, rfl, _, _, rfl, s0.keep nX, hX, bW.trans (nX.mono bW.size)⟩
      · have nX := below_new w (.cells #[(.int .i64 2), (.int .i64 0), (.string ⟨#[98]⟩), (.int .i64 1), (.int .i64 1), (.string ⟨#[]⟩)] 58)
        have hX : IsVals (w.alloc (.cells #[(.int .i64 2), (.int .i64 0), (.string ⟨#[98]⟩), (.int .i64 1), (.int .i64 1), (.string ⟨#[]⟩)] 58)) (.slice (some ⟨w.heap.size, 0, none⟩) 2 2) tB1 := IsRows.lit w tB1 encsV (by decide)
        refine step_lit fitsV (by kernel_rfl) _ rfl _ rfl _ #[(.int .i64 2), (.int .i64 0), (.string ⟨#[98]⟩), (.int .i64 1), (.int .i64 1), (.string ⟨#[]⟩)] base58_2 (by decide) (by decide) [(0, .agg #[(.int .i64 2), (.int .i64 0), (.string ⟨#[98]⟩)]), (1, .agg #[(.int .i64 1), (.int .i64 1), (.string ⟨#[]⟩)])] (by kernel_rfl) (by kernel_rfl) ?_
        refine hK.out _ _ (HALL _ (bW.trans (nX.mono bW.size))) (fun hHeld => ?_)
        clear hK K
        try simp only [puts, gets]
        exact M2_1 _ _ _ _ ⟨rfl, rfl, _, _, rfl, hX, s0.keep nX, bW.trans (nX.mono bW.size)⟩
  refine any_merge (fun f d a w => f = 10 ∧ d = #[true, true, true, false, false, true, true, false, false, false, true, true, false, false, false, false, false] ∧ ∃ (p0 : Option Addr), a = ⟨#[(.bool false), (.pointer (some ⟨g1, 0, none⟩)), (.pointer (some ⟨g2, 0, none⟩)), (.pointer (some ⟨g3, 0, none⟩)), (.pointer (some ⟨g4, 0, none⟩)), undef, undef, undef, undef, undef, undef, undef, undef, (.agg #[.int .i64 2, .int .i64 0, .string ⟨#[97]⟩]), (.agg #[.int .i64 2, .int .i64 0, .string ⟨#[98]⟩]), (.agg #[.int .i64 1, .int .i64 1, .string ⟨#[]⟩]), (.agg #[.int .i64 1, .int .i64 2, .string ⟨#[]⟩]), (.agg #[.int .i64 2, .int .i64 0, .string ⟨#[97]⟩]), (.agg #[.int .i64 1, .int .i64 1, .string ⟨#[]⟩]), (.slice p0 2 2), undef, undef, (.agg #[.int .i64 2, .int .i64 0, .string ⟨#[97]⟩]), (.agg #[.int .i64 1, .int .i64 2, .string ⟨#[]⟩]), undef, undef, undef, (.agg #[.int .i64 2, .int .i64 0, .string ⟨#[98]⟩]), (.agg #[.int .i64 1, .int .i64 1, .string ⟨#[]⟩]), undef, undef, undef, undef, undef, undef, undef, undef, undef, undef, undef, undef, undef, undef, undef, undef, undef, undef, undef, undef, undef, undef, undef, undef, undef, undef, undef, undef, undef, undef, undef, undef, undef, undef, undef, undef, undef, undef, undef, undef, undef, undef, undef, undef, undef, undef, undef, undef, undef, undef, undef, undef, undef, undef, undef, undef, undef, undef, undef, undef, undef, undef, undef, undef, undef, undef, undef, undef, undef, undef, undef, undef, undef, undef, undef, undef, undef, undef, undef, undef, undef, undef, undef, undef, undef, undef, undef, undef, undef, undef, undef, undef, undef, undef, undef, undef, undef, undef, undef, undef, undef, undef, undef, undef, undef, undef, undef, undef, undef, undef, undef, undef, undef, undef, undef, undef, undef, undef, undef, undef, undef, undef, undef, undef, undef, undef, undef, undef, undef, undef, undef, undef, undef, undef, undef, undef, undef, undef, undef, undef, undef, undef, undef, undef, undef, undef, undef, undef, undef, undef, undef, undef, undef, undef, undef, undef, undef, undef, undef, undef, undef, undef, undef, undef, undef, undef], []⟩ ∧ IsVals w (.slice p0 2 2) tA1 ∧ Below w4.heap.size w4 w) ?mM0_0 (fun M0_0 => ?_)
  case mM0_0 =>
    rintro f d a w ⟨rfl, rfl, p0, rfl, v0, bW⟩
    as_aux_lemma =>
      have hHeld := HALL _ bW
      refine any_three (i := 3) (j := 7) (k := 12) (by kernel_rfl) rfl rfl rfl rfl rfl rfl (fun K hK => ?_) (fun K hK => ?_) (fun K hK => ?_)
      · have nX := below_new w (.cells #[.int .i64 0, .int .i64 5] 86)
        have hX : IsSpans (w.alloc (.cells #[.int .i64 0, .int .i64 5] 86)) (.slice (some ⟨w.heap.size, 0, none⟩) 1 1) [(0, 5)] := IsSpans.of_rows (IsRows.lit w [(0, 5)] encsS (by decide))
        go_simp
        go_at_call 100
        refine (five_any _).mono ?_
        rintro e wY ⟨rfl, rfl⟩
        refine hK.out _ _ (HALL _ (bW.trans (nX.mono bW.size))) (fun hHeld => ?_)
        clear hK K
        try simp only [puts, gets]
        refine any_take (by kernel_rfl) (i := 4) (oi := _) (v := ?_) rfl rfl (by kernel_rfl) (by kernel_rfl) (by kernel_rfl) (fun _ _ _ h => h) (Or.inl ⟨by rfl, ?_⟩) hHeld ?_
        rotate_left
        · intro w' hSw; try dsimp only at hSw
          go_simp
          try with_reducible rfl
        try simp only [puts, gets]
        exact M0_1 _ _ _ _ ⟨rfl, rfl, _, _, rfl, v0.keep nX, hX, bW.trans (nX.mono bW.size)⟩
      · have nX := below_new w (.cells #[(.int .i64 2), (.int .i64 0), (.string ⟨#[97]⟩), (.int .i64 1), (.int .i64 2), (.string ⟨#[]⟩)] 58)
        have hX : IsVals (w.alloc (.cells #[(.int .i64 2), (.int .i64 0), (.string ⟨#[97]⟩), (.int .i64 1), (.int .i64 2), (.string ⟨#[]⟩)] 58)) (.slice (some ⟨w.heap.size, 0, none⟩) 2 2) tA2 := IsRows.lit w tA2 encsV (by decide)
        refine step_lit fitsV (by kernel_rfl) _ rfl _ rfl _ #[(.int .i64 2), (.int .i64 0), (.string ⟨#[97]⟩), (.int .i64 1), (.int .i64 2), (.string ⟨#[]⟩)] base58_2 (by decide) (by decide) [(0, .agg #[(.int .i64 2), (.int .i64 0), (.string ⟨#[97]⟩)]), (1, .agg #[(.int .i64 1), (.int .i64 2), (.string ⟨#[]⟩)])] (by kernel_rfl) (by kernel_rfl) ?_
        refine hK.out _ _ (HALL _ (bW.trans (nX.mono bW.size))) (fun hHeld => ?_)
        clear hK K
        try simp only [puts, gets]
        exact M01_0 _ _ _ _ ⟨rfl, rfl, _, _, rfl, v0.keep nX, hX, bW.trans (nX.mono bW.size)⟩
      · have nX := below_new w (.cells #[(.int .i64 2), (.int .i64 0), (.string ⟨#[98]⟩), (.int .i64 1), (.int .i64 1), (.string ⟨#[]⟩)] 58)
        have hX : IsVals (w.alloc (.cells #[(.int .i64 2), (.int .i64 0), (.string ⟨#[98]⟩), (.int .i64 1), (.int .i64 1), (.string ⟨#[]⟩)] 58)) (.slice (some ⟨w.heap.size, 0, none⟩) 2 2) tB1 := IsRows.lit w tB1 encsV (by decide)
        refine step_lit fitsV (by kernel_rfl) _ rfl _ rfl _ #[(.int .i64 2), (.int .i64 0), (.string ⟨#[98]⟩), (.int .i64 1), (.int .i64 1), (.string ⟨#[]⟩)] base58_2 (by decide) (by decide) [(0, .agg #[(.int .i64 2), (.int .i64 0), (.string ⟨#[98]⟩)]), (1, .agg #[(.int .i64 1), (.int .i64 1), (.string ⟨#[]⟩)])] (by kernel_rfl) (by kernel_rfl) ?_
        refine hK.out _ _ (HALL _ (bW.trans (nX.mono bW.size))) (fun hHeld => ?_)
        clear hK K
        try simp only [puts, gets]
        exact M02_0 _ _ _ _ ⟨rfl, rfl, _, _, rfl, v0.keep nX, hX, bW.trans (nX.mono bW.size)⟩
  refine any_merge (fun f d a w => f = 10 ∧ d = #[true, true, false, false, false, true, true, true, false, false, true, true, false, false, false, false, false] ∧ ∃ (p1 : Option Addr), a = ⟨#[(.bool false), (.pointer (some ⟨g1, 0, none⟩)), (.pointer (some ⟨g2, 0, none⟩)), (.pointer (some ⟨g3, 0, none⟩)), (.pointer (some ⟨g4, 0, none⟩)), undef, undef, undef, undef, undef, undef, undef, undef, (.agg #[.int .i64 2, .int .i64 0, .string ⟨#[97]⟩]), (.agg #[.int .i64 2, .int .i64 0, .string ⟨#[98]⟩]), (.agg #[.int .i64 1, .int .i64 1, .string ⟨#[]⟩]), (.agg #[.int .i64 1, .int .i64 2, .string ⟨#[]⟩]), (.agg #[.int .i64 2, .int .i64 0, .string ⟨#[97]⟩]), (.agg #[.int .i64 1, .int .i64 1, .string ⟨#[]⟩]), undef, undef, undef, (.agg #[.int .i64 2, .int .i64 0, .string ⟨#[97]⟩]), (.agg #[.int .i64 1, .int .i64 2, .string ⟨#[]⟩]), (.slice p1 2 2), undef, undef, (.agg #[.int .i64 2, .int .i64 0, .string ⟨#[98]⟩]), (.agg #[.int .i64 1, .int .i64 1, .string ⟨#[]⟩]), undef, undef, undef, undef, undef, undef, undef, undef, undef, undef, undef, undef, undef, undef, undef, undef, undef, undef, undef, undef, undef, undef, undef, undef, undef, undef, undef, undef, undef, undef, undef, undef, undef, undef, undef, undef, undef, undef, undef, undef, undef, undef, undef, undef, undef, undef, undef, undef, undef, undef, undef, undef, undef, undef, undef, undef, undef, undef, undef, undef, undef, undef, undef, undef, undef, undef, undef, undef, undef, undef, undef, undef, undef, undef, undef, undef, undef, undef, undef, undef, undef, undef, undef, undef, undef, undef, undef, undef, undef, undef, undef, undef, undef, undef, undef, undef, undef, undef, undef, undef, undef, undef, undef, undef, undef, undef, undef, undef, undef, undef, undef, undef, undef, undef, undef, undef, undef, undef, undef, undef, undef, undef, undef, undef, undef, undef, undef, undef, undef, undef, undef, undef, undef, undef, undef, undef, undef, undef, undef, undef, undef, undef, undef, undef, undef, undef, undef, undef, undef, undef, undef, undef, undef, undef, undef, undef, undef, undef, undef, undef, undef, undef, undef, undef, undef, undef], []⟩ ∧ IsVals w (.slice p1 2 2) tA2 ∧ Below w4.heap.size w4 w) ?mM1_0 (fun M1_0 => ?_)
  case mM1_0 =>
    rintro f d a w ⟨rfl, rfl, p1, rfl, v1, bW⟩
    as_aux_lemma =>
      have hHeld := HALL _ bW
      refine any_three (i := 2) (j := 3) (k := 12) (by kernel_rfl) rfl rfl rfl rfl rfl rfl (fun K hK => ?_) (fun K hK => ?_) (fun K hK => ?_)
      · have nX := below_new w (.cells #[(.int .i64 2), (.int .i64 0), (.string ⟨#[97]⟩), (.int .i64 1), (.int .i64 1), (.string ⟨#[]⟩)] 58)
        have hX : IsVals (w.alloc (.cells #[(.int .i64 2), (.int .i64 0), (.string ⟨#[97]⟩), (.int .i64 1), (.int .i64 1), (.string ⟨#[]⟩)] 58)) (.slice (some ⟨w.heap.size, 0, none⟩) 2 2) tA1 := IsRows.lit w tA1 encsV (by decide)
        refine step_lit fitsV (by kernel_rfl) _ rfl _ rfl _ #[(.int .i64 2), (.int .i64 0), (.string ⟨#[97]⟩), (.int .i64 1), (.int .i64 1), (.string ⟨#[]⟩)] base58_2 (by decide) (by decide) [(0, .agg #[(.int .i64 2), (.int .i64 0), (.string ⟨#[97]⟩)]), (1, .agg #[(.int .i64 1), (.int .i64 1), (.string ⟨#[]⟩)])] (by kernel_rfl) (by kernel_rfl) ?_
        refine hK.out _ _ (HALL _ (bW.trans (nX.mono bW.size))) (fun hHeld => ?_)
        clear hK K
        try simp only [puts, gets]
        exact M01_0 _ _ _ _ ⟨rfl, rfl, _, _, rfl, hX, v1.keep nX, bW.trans (nX.mono bW.size)⟩
      · have nX := below_new w (.cells #[.int .i64 0, .int .i64 5] 86)
        have hX : IsSpans (w.alloc (.cells #[.int .i64 0, .int .i64 5] 86)) (.slice (some ⟨w.heap.size, 0, none⟩) 1 1) [(0, 5)] := IsSpans.of_rows (IsRows.lit w [(0, 5)] encsS (by decide))
        go_simp
        go_at_call 100
        refine (five_any _).mono ?_
        rintro e wY ⟨rfl, rfl⟩
        refine hK.out _ _ (HALL _ (bW.trans (nX.mono bW.size))) (fun hHeld => ?_)
        clear hK K
        try simp only [puts, gets]
        exact M1_1 _ _ _ _ ⟨rfl, rfl, _, _, rfl, v1.keep nX, hX, bW.trans (nX.mono bW.size)⟩
      · have nX := below_new w (.cells #[(.int .i64 2), (.int .i64 0), (.string ⟨#[98]⟩), (.int .i64 1), (.int .i64 1), (.string ⟨#[]⟩)] 58)
        have hX : IsVals (w.alloc (.cells #[(.int .i64 2), (.int .i64 0), (.string ⟨#[98]⟩), (.int .i64 1), (.int .i64 1), (.string ⟨#[]⟩)] 58)) (.slice (some ⟨w.heap.size, 0, none⟩) 2 2) tB1 := IsRows.lit w tB1 encsV (by decide)
        refine step_lit fitsV (by kernel_rfl) _ rfl _ rfl _ #[(.int .i64 2), (.int .i64 0), (.string ⟨#[98]⟩), (.int .i64 1), (.int .i64 1), (.string ⟨#[]⟩)] base58_2 (by decide) (by decide) [(0, .agg #[(.int .i64 2), (.int .i64 0), (.string ⟨#[98]⟩)]), (1, .agg #[(.int .i64 1), (.int .i64 1), (.string ⟨#[]⟩)])] (by kernel_rfl) (by kernel_rfl) ?_
        refine hK.out _ _ (HALL _ (bW.trans (nX.mono bW.size))) (fun hHeld => ?_)
        clear hK K
        try simp only [puts, gets]
        exact M12_0 _ _ _ _ ⟨rfl, rfl, _, _, rfl, v1.keep nX, hX, bW.trans (nX.mono bW.size)⟩
  refine any_merge (fun f d a w => f = 10 ∧ d = #[true, true, false, false, false, true, true, false, false, false, true, true, true, false, false, false, false] ∧ ∃ (p2 : Option Addr), a = ⟨#[(.bool false), (.pointer (some ⟨g1, 0, none⟩)), (.pointer (some ⟨g2, 0, none⟩)), (.pointer (some ⟨g3, 0, none⟩)), (.pointer (some ⟨g4, 0, none⟩)), undef, undef, undef, undef, undef, undef, undef, undef, (.agg #[.int .i64 2, .int .i64 0, .string ⟨#[97]⟩]), (.agg #[.int .i64 2, .int .i64 0, .string ⟨#[98]⟩]), (.agg #[.int .i64 1, .int .i64 1, .string ⟨#[]⟩]), (.agg #[.int .i64 1, .int .i64 2, .string ⟨#[]⟩]), (.agg #[.int .i64 2, .int .i64 0, .string ⟨#[97]⟩]), (.agg #[.int .i64 1, .int .i64 1, .string ⟨#[]⟩]), undef, undef, undef, (.agg #[.int .i64 2, .int .i64 0, .string ⟨#[97]⟩]), (.agg #[.int .i64 1, .int .i64 2, .string ⟨#[]⟩]), undef, undef, undef, (.agg #[.int .i64 2, .int .i64 0, .string ⟨#[98]⟩]), (.agg #[.int .i64 1, .int .i64 1, .string ⟨#[]⟩]), (.slice p2 2 2), undef, undef, undef, undef, undef, undef, undef, undef, undef, undef, undef, undef, undef, undef, undef, undef, undef, undef, undef, undef, undef, undef, undef, undef, undef, undef, undef, undef, undef, undef, undef, undef, undef, undef, undef, undef, undef, undef, undef, undef, undef, undef, undef, undef, undef, undef, undef, undef, undef, undef, undef, undef, undef, undef, undef, undef, undef, undef, undef, undef, undef, undef, undef, undef, undef, undef, undef, undef, undef, undef, undef, undef, undef, undef, undef, undef, undef, undef, undef, undef, undef, undef, undef, undef, undef, undef, undef, undef, undef, undef, undef, undef, undef, undef, undef, undef, undef, undef, undef, undef, undef, undef, undef, undef, undef, undef, undef, undef, undef, undef, undef, undef, undef, undef, undef, undef, undef, undef, undef, undef, undef, undef, undef, undef, undef, undef, undef, undef, undef, undef, undef, undef, undef, undef, undef, undef, undef, undef, undef, undef, undef, undef, undef, undef, undef, undef, undef, undef, undef, undef, undef, undef, undef, undef, undef, undef, undef, undef, undef, undef, undef, undef, undef, undef, undef], []⟩ ∧ IsVals w (.slice p2 2 2) tB1 ∧ Below w4.heap.size w4 w) ?mM2_0 (fun M2_0 => ?_)
  case mM2_0 =>
    rintro f d a w ⟨rfl, rfl, p2, rfl, v2, bW⟩
    as_aux_lemma =>
      have hHeld := HALL _ bW
      refine any_three (i := 2) (j := 3) (k := 7) (by kernel_rfl) rfl rfl rfl rfl rfl rfl (fun K hK => ?_) (fun K hK => ?_) (fun K hK => ?_)
      · have nX := below_new w (.cells #[(.int .i64 2), (.int .i64 0), (.string ⟨#[97]⟩), (.int .i64 1), (.int .i64 1), (.string ⟨#[]⟩)] 58)
        have hX : IsVals (w.alloc (.cells #[(.int .i64 2), (.int .i64 0), (.string ⟨#[97]⟩), (.int .i64 1), (.int .i64 1), (.string ⟨#[]⟩)] 58)) (.slice (some ⟨w.heap.size, 0, none⟩) 2 2) tA1 := IsRows.lit w tA1 encsV (by decide)
        refine step_lit fitsV (by kernel_rfl) _ rfl _ rfl _ #[(.int .i64 2), (.int .i64 0), (.string ⟨#[97]⟩), (.int .i64 1), (.int .i64 1), (.string ⟨#[]⟩)] base58_2 (by decide) (by decide) [(0, .agg #[(.int .i64 2), (.int .i64 0), (.string ⟨#[97]⟩)]), (1, .agg #[(.int .i64 1), (.int .i64 1), (.string ⟨#[]⟩)])] (by kernel_rfl) (by kernel_rfl) ?_
        refine hK.out _ _ (HALL _ (bW.trans (nX.mono bW.size))) (fun hHeld => ?_)
        clear hK K
        try simp only [puts, gets]
        exact M02_0 _ _ _ _ ⟨rfl, rfl, _, _, rfl, hX, v2.keep nX, bW.trans (nX.mono bW.size)⟩
      · have nX := below_new w (.cells #[.int .i64 0, .int .i64 5] 86)
        have hX : IsSpans (w.alloc (.cells #[.int .i64 0, .int .i64 5] 86)) (.slice (some ⟨w.heap.size, 0, none⟩) 1 1) [(0, 5)] := IsSpans.of_rows (IsRows.lit w [(0, 5)] encsS (by decide))
        go_simp
        go_at_call 100
        refine (five_any _).mono ?_
        rintro e wY ⟨rfl, rfl⟩
        refine hK.out _ _ (HALL _ (bW.trans (nX.mono bW.size))) (fun hHeld => ?_)
        clear hK K
        try simp only [puts, gets]
        exact M2_1 _ _ _ _ ⟨rfl, rfl, _, _, rfl, v2.keep nX, hX, bW.trans (nX.mono bW.size)⟩
      · have nX := below_new w (.cells #[(.int .i64 2), (.int .i64 0), (.string ⟨#[97]⟩), (.int .i64 1), (.int .i64 2), (.string ⟨#[]⟩)] 58)
        have hX : IsVals (w.alloc (.cells #[(.int .i64 2), (.int .i64 0), (.string ⟨#[97]⟩), (.int .i64 1), (.int .i64 2), (.string ⟨#[]⟩)] 58)) (.slice (some ⟨w.heap.size, 0, none⟩) 2 2) tA2 := IsRows.lit w tA2 encsV (by decide)
        refine step_lit fitsV (by kernel_rfl) _ rfl _ rfl _ #[(.int .i64 2), (.int .i64 0), (.string ⟨#[97]⟩), (.int .i64 1), (.int .i64 2), (.string ⟨#[]⟩)] base58_2 (by decide) (by decide) [(0, .agg #[(.int .i64 2), (.int .i64 0), (.string ⟨#[97]⟩)]), (1, .agg #[(.int .i64 1), (.int .i64 2), (.string ⟨#[]⟩)])] (by kernel_rfl) (by kernel_rfl) ?_
        refine hK.out _ _ (HALL _ (bW.trans (nX.mono bW.size))) (fun hHeld => ?_)
        clear hK K
        try simp only [puts, gets]
        exact M12_0 _ _ _ _ ⟨rfl, rfl, _, _, rfl, hX, v2.keep nX, bW.trans (nX.mono bW.size)⟩
  refine any_merge (fun f d a w => f = 11 ∧ d = #[true, true, false, false, false, true, true, false, false, false, true, true, false, false, false, false, false] ∧ a = ⟨#[(.bool false), (.pointer (some ⟨g1, 0, none⟩)), (.pointer (some ⟨g2, 0, none⟩)), (.pointer (some ⟨g3, 0, none⟩)), (.pointer (some ⟨g4, 0, none⟩)), undef, undef, undef, undef, undef, undef, undef, undef, (.agg #[.int .i64 2, .int .i64 0, .string ⟨#[97]⟩]), (.agg #[.int .i64 2, .int .i64 0, .string ⟨#[98]⟩]), (.agg #[.int .i64 1, .int .i64 1, .string ⟨#[]⟩]), (.agg #[.int .i64 1, .int .i64 2, .string ⟨#[]⟩]), (.agg #[.int .i64 2, .int .i64 0, .string ⟨#[97]⟩]), (.agg #[.int .i64 1, .int .i64 1, .string ⟨#[]⟩]), undef, undef, undef, (.agg #[.int .i64 2, .int .i64 0, .string ⟨#[97]⟩]), (.agg #[.int .i64 1, .int .i64 2, .string ⟨#[]⟩]), undef, undef, undef, (.agg #[.int .i64 2, .int .i64 0, .string ⟨#[98]⟩]), (.agg #[.int .i64 1, .int .i64 1, .string ⟨#[]⟩]), undef, undef, undef, undef, undef, undef, undef, undef, undef, undef, undef, undef, undef, undef, undef, undef, undef, undef, undef, undef, undef, undef, undef, undef, undef, undef, undef, undef, undef, undef, undef, undef, undef, undef, undef, undef, undef, undef, undef, undef, undef, undef, undef, undef, undef, undef, undef, undef, undef, undef, undef, undef, undef, undef, undef, undef, undef, undef, undef, undef, undef, undef, undef, undef, undef, undef, undef, undef, undef, undef, undef, undef, undef, undef, undef, undef, undef, undef, undef, undef, undef, undef, undef, undef, undef, undef, undef, undef, undef, undef, undef, undef, undef, undef, undef, undef, undef, undef, undef, undef, undef, undef, undef, undef, undef, undef, undef, undef, undef, undef, undef, undef, undef, undef, undef, undef, undef, undef, undef, undef, undef, undef, undef, undef, undef, undef, undef, undef, undef, undef, undef, undef, undef, undef, undef, undef, undef, undef, undef, undef, undef, undef, undef, undef, undef, undef, undef, undef, undef, undef, undef, undef, undef, undef, undef, undef, undef, undef, undef, undef, undef, undef, undef, undef, undef, undef], []⟩ ∧ Below w4.heap.size w4 w) ?mM_0 (fun M_0 => ?_)
  case mM_0 =>
    rintro f d a w ⟨rfl, rfl, rfl, bW⟩
    as_aux_lemma =>
      have hHeld := HALL _ bW
      refine any_four (i := 2) (j := 3) (k := 7) (l := 12) (by kernel_rfl) rfl rfl rfl rfl rfl rfl rfl rfl (fun K hK => ?_) (fun K hK => ?_) (fun K hK => ?_) (fun K hK => ?_)
      · have nX := below_new w (.cells #[(.int .i64 2), (.int .i64 0), (.string ⟨#[97]⟩), (.int .i64 1), (.int .i64 1), (.string ⟨#[]⟩)] 58)
        have hX : IsVals (w.alloc (.cells #[(.int .i64 2), (.int .i64 0), (.string ⟨#[97]⟩), (.int .i64 1), (.int .i64 1), (.string ⟨#[]⟩)] 58)) (.slice (some ⟨w.heap.size, 0, none⟩) 2 2) tA1 := IsRows.lit w tA1 encsV (by decide)
        refine step_lit fitsV (by kernel_rfl) _ rfl _ rfl _ #[(.int .i64 2), (.int .i64 0), (.string ⟨#[97]⟩), (.int .i64 1), (.int .i64 1), (.string ⟨#[]⟩)] base58_2 (by decide) (by decide) [(0, .agg #[(.int .i64 2), (.int .i64 0), (.string ⟨#[97]⟩)]), (1, .agg #[(.int .i64 1), (.int .i64 1), (.string ⟨#[]⟩)])] (by kernel_rfl) (by kernel_rfl) ?_
        refine hK.out _ _ (HALL _ (bW.trans (nX.mono bW.size))) (fun hHeld => ?_)
        clear hK K
        try simp only [puts, gets]
        exact M0_0 _ _ _ _ ⟨rfl, rfl, _, rfl, hX, bW.trans (nX.mono bW.size)⟩
      · have nX := below_new w (.cells #[.int .i64 0, .int .i64 5] 86)
        have hX : IsSpans (w.alloc (.cells #[.int .i64 0, .int .i64 5] 86)) (.slice (some ⟨w.heap.size, 0, none⟩) 1 1) [(0, 5)] := IsSpans.of_rows (IsRows.lit w [(0, 5)] encsS (by decide))
        go_simp
        go_at_call 100
        refine (five_any _).mono ?_
        rintro e wY ⟨rfl, rfl⟩
        refine hK.out _ _ (HALL _ (bW.trans (nX.mono bW.size))) (fun hHeld => ?_)
        clear hK K
        try simp only [puts, gets]
        exact M_1 _ _ _ _ ⟨rfl, rfl, _, rfl, hX, bW.trans (nX.mono bW.size)⟩
      · have nX := below_new w (.cells #[(.int .i64 2), (.int .i64 0), (.string ⟨#[97]⟩), (.int .i64 1), (.int .i64 2), (.string ⟨#[]⟩)] 58)
        have hX : IsVals (w.alloc (.cells #[(.int .i64 2), (.int .i64 0), (.string ⟨#[97]⟩), (.int .i64 1), (.int .i64 2), (.string ⟨#[]⟩)] 58)) (.slice (some ⟨w.heap.size, 0, none⟩) 2 2) tA2 := IsRows.lit w tA2 encsV (by decide)
        refine step_lit fitsV (by kernel_rfl) _ rfl _ rfl _ #[(.int .i64 2), (.int .i64 0), (.string ⟨#[97]⟩), (.int .i64 1), (.int .i64 2), (.string ⟨#[]⟩)] base58_2 (by decide) (by decide) [(0, .agg #[(.int .i64 2), (.int .i64 0), (.string ⟨#[97]⟩)]), (1, .agg #[(.int .i64 1), (.int .i64 2), (.string ⟨#[]⟩)])] (by kernel_rfl) (by kernel_rfl) ?_
        refine hK.out _ _ (HALL _ (bW.trans (nX.mono bW.size))) (fun hHeld => ?_)
        clear hK K
        try simp only [puts, gets]
        exact M1_0 _ _ _ _ ⟨rfl, rfl, _, rfl, hX, bW.trans (nX.mono bW.size)⟩
      · have nX := below_new w (.cells #[(.int .i64 2), (.int .i64 0), (.string ⟨#[98]⟩), (.int .i64 1), (.int .i64 1), (.string ⟨#[]⟩)] 58)
        have hX : IsVals (w.alloc (.cells #[(.int .i64 2), (.int .i64 0), (.string ⟨#[98]⟩), (.int .i64 1), (.int .i64 1), (.string ⟨#[]⟩)] 58)) (.slice (some ⟨w.heap.size, 0, none⟩) 2 2) tB1 := IsRows.lit w tB1 encsV (by decide)
        refine step_lit fitsV (by kernel_rfl) _ rfl _ rfl _ #[(.int .i64 2), (.int .i64 0), (.string ⟨#[98]⟩), (.int .i64 1), (.int .i64 1), (.string ⟨#[]⟩)] base58_2 (by decide) (by decide) [(0, .agg #[(.int .i64 2), (.int .i64 0), (.string ⟨#[98]⟩)]), (1, .agg #[(.int .i64 1), (.int .i64 1), (.string ⟨#[]⟩)])] (by kernel_rfl) (by kernel_rfl) ?_
        refine hK.out _ _ (HALL _ (bW.trans (nX.mono bW.size))) (fun hHeld => ?_)
        clear hK K
        try simp only [puts, gets]
        exact M2_0 _ _ _ _ ⟨rfl, rfl, _, rfl, hX, bW.trans (nX.mono bW.size)⟩
  exact M_0 _ _ _ _ ⟨rfl, rfl, rfl, bD⟩
end Go.Proofs.YtdibijhaiaiifaaDoor
