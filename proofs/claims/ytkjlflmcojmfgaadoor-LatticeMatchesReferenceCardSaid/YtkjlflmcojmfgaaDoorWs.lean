/- The walk of the reference's Order. -/
import Derived.Test.YtkjlflmcojmfgaaDoorMat
import Derived.Test.YtkjlflmcojmfgaaDoorTwo
namespace Go.Proofs.YtkjlflmcojmfgaaDoor
open Go.RowKit
theorem info53 : (Tryd.prog.info? 53).map (fun i => (i.zero, i.size, i.bytes)) = some (some (.slice none 0 0), 1, 24) := by kernel_rfl
def rowsV (n : Nat) (rs : Nat → Nat) (k : Nat) : List Value := (List.range k).map fun a => .slice (some ⟨rs a, 0, none⟩) n n
theorem rowsV_len (n : Nat) (rs : Nat → Nat) (k : Nat) : (rowsV n rs k).length = k := by simp [rowsV]
theorem rowsV_get {n : Nat} {rs : Nat → Nat} {k a : Nat} (h : a < k) : (rowsV n rs k)[a]? = some (.slice (some ⟨rs a, 0, none⟩) n n) := by
  unfold rowsV; rw [List.getElem?_map, List.getElem?_range h]; rfl
theorem rowsV_succ (n : Nat) (rs : Nat → Nat) (k : Nat) : rowsV n rs (k + 1) = rowsV n rs k ++ [.slice (some ⟨rs k, 0, none⟩) n n] := by simp [rowsV, List.range_succ]
theorem rowsV_congr {n : Nat} {rs qs : Nat → Nat} {k : Nat} (h : ∀ a, a < k → rs a = qs a) : rowsV n rs k = rowsV n qs k := by
  unfold rowsV
  exact List.map_congr_left fun a ha => by rw [h a (List.mem_range.1 ha)]
theorem MTop.of_block {w w' : World} {G c : Nat} {rs : Nat → Nat} {n : Nat} (h : MTop w G c rs n) (hg : w'.heap[G]? = w.heap[G]?) : MTop w' G c rs n := ⟨fun a ha => (World.cell?_of_block (a := ⟨G, a, none⟩) hg).trans (h.1 a ha), h.2⟩
/-- A table under way: k rows, each in a block of its own. -/
structure OwnM (w : World) (base : Nat) (v : Value) (n : Nat) (rs : Nat → Nat) (k : Nat) : Prop where
  top : w.ownsRow base 53 1 v k (rowsV n rs k)
  row : ∀ a, a < k → BRow w (rs a) n (fun b => decide (b = a))
  lo : ∀ a, a < k → base ≤ rs a
  own : ∀ a, a < k → v.ownBlock ≠ some (rs a)
  inj : ∀ a b, a < k → b < k → rs a = rs b → a = b
theorem step_pushM {wr w : World} {ops : Array Oper} {rest : List Oper} {o : Oper} {a : Act} {Q : Exit → Act → World → Prop} (hgd : o.guard = none) (s y : Operand) (ho : o.op = .call { callee := .builtin .append, args := #[s, y], argTypes := #[51, 51] })
    {base n k : Nat} {v : Value} {rs : Nat → Nat} {g g1 : Nat} (hs : a.eval s = v) (hy : a.eval y = .slice (some ⟨g1, 0, none⟩) 1 1) (hO : OwnM wr base v n rs k) (hb : Below wr.heap.size wr w) (hgl : wr.heap.size ≤ g) (hg1 : g ≠ g1) (hrow : BRow w g n (fun b => decide (b = k))) (hblk : w.heap[g1]? = some (.cells #[.slice (some ⟨g, 0, none⟩) n n] 53 (0, 0))) (hbase : base ≤ wr.heap.size) (hk : k ≤ 1000)
    (h : ∀ p c w', OwnM w' base (.slice p (k + 1) c) n (fun a => if a = k then g else rs a) (k + 1) → Below base wr w' → wpList Tryd.prog ops Q rest (a.put o.dst (.slice p (k + 1) c)) w') : wpList Tryd.prog ops Q (o :: rest) a w := by
  obtain ⟨i0, hi, hz0, hz1, hz2⟩ := info_parts' info53
  have hown : w.ownsRow base 53 1 v k (rowsV n rs k) := own_keep hO.top hb
  have hgw := hrow.lt
  obtain ⟨v', w', hrun, h2, hg, -, hat⟩ := run_append_own_at (P := Tryd.prog) w base 51 o.type 53 i0 (.slice none 0 0) 1 24 Tryd.underlying51 hi hz0 hz1 hz2 rfl (by decide) v k (rowsV n rs k) hown ⟨g1, 0, none⟩ 1 1 [.slice (some ⟨g, 0, none⟩) n n] rfl
    (fun j y hj => by
      have hj0 : j = 0 := by have := (List.getElem?_eq_some_iff.1 hj).1; simpa using this
      subst hj0
      simp at hj; subst hj
      have : w.cell? ⟨g1, 0, none⟩ = some (.slice (some ⟨g, 0, none⟩) n n) := cell_at hblk rfl
      simpa [Addr.add] using this) (by intro y hy; simp at hy; subst hy; rfl) (by unfold maxLen; omega) (by omega) (by have := hb.size; omega)
  have hvne : ∀ q, q < wr.heap.size ∨ q = g → (∀ x, v.ownBlock = some x → x ≠ q) → w'.heap[q]? = w.heap[q]? := fun q hq hx => by
    refine hg.block q ?_ fun e => hx q e.symm rfl
    rcases hq with hq | rfl
    · have := hb.size; omega
    · exact hgw
  have hvl : ∀ x, v.ownBlock = some x → base ≤ x ∧ x < wr.heap.size := fun x hx => World.ownsRow.lt hO.top x hx
  have e1 : rowsV n rs k ++ [.slice (some ⟨g, 0, none⟩) n n] = rowsV n (fun a => if a = k then g else rs a) (k + 1) := by
    rw [rowsV_succ, if_pos rfl, rowsV_congr (qs := fun a => if a = k then g else rs a) fun a ha => (if_neg (by omega)).symm]
  rw [e1] at h2
  have bb : Below base wr w' := below_own hO.top hb hg hbase
  have hM : OwnM w' base v' n (fun a => if a = k then g else rs a) (k + 1) := by
    refine ⟨h2, fun a ha => ?_, fun a ha => ?_, fun a ha => ?_, fun a b ha hb' => ?_⟩
    · by_cases e : a = k
      · subst e
        rw [if_pos rfl]
        exact hrow.of_block (hvne g (.inr rfl) fun x hx => by have := (hvl x hx).2; omega)
      · rw [if_neg e]
        have hr := hO.row a (by omega)
        exact (hr.keep hb).of_block (hvne _ (.inl hr.lt) fun x hx e => hO.own a (by omega) (by rw [hx, e]))
    · split
      · omega
      · exact hO.lo a (by omega)
    · intro e
      split at e
      · rcases hat with h | h
        · rw [e] at h; have := (hvl _ h.symm).2; omega
        · rw [e] at h; injection h with h; omega
      · have hr := (hO.row a (by omega)).lt
        rcases hat with h | h
        · rw [e] at h; exact hO.own a (by omega) h.symm
        · rw [e] at h; injection h with h; have := hb.size; omega
    · intro e
      split at e <;> split at e
      · omega
      · have hr := (hO.row b (by omega)).lt; omega
      · have hr := (hO.row a (by omega)).lt; omega
      · exact hO.inj a b (by omega) (by omega) e
  obtain ⟨p, c, rfl⟩ := own_slice h2
  refine wpList_plain hgd fun K hK => ?_
  unfold Oper.wp execOp
  simp only [ho, resolve, invoke, builtin, Sem.run_bind, Sem.run_pure, Result.andThen_ok, List.map_toArray, List.map_cons, List.map_nil, hs, hy, hrun]
  exact hK _ _ (h p c w' hM bb)
theorem OwnM.zero (w : World) (n : Nat) (rs : Nat → Nat) : OwnM (w.alloc (.cells #[] 53)) w.heap.size (.slice (some ⟨w.heap.size, 0, none⟩) 0 0) n rs 0 :=
  ⟨World.ownsRow_lit w #[] 0 (Nat.le_refl _) (by decide) rfl, fun _ h => by omega, fun _ h => by omega, fun _ h => by omega, fun _ _ h => by omega⟩
theorem own_posM {w : World} {base : Nat} {e : TypeId} {size n : Nat} {v : Value} {xs : List Value} (h : w.ownsRow base e size v n xs) (hn : 0 < n) : ∃ g c, v = .slice (some ⟨g, 0, none⟩) n c ∧ base ≤ g ∧ g < w.heap.size := by
  rcases h.2 with ⟨_, h0⟩ | ⟨g, cap, cur, rfl, hg, hb, _⟩
  · omega
  · exact ⟨g, cap, rfl, hg, (Array.getElem?_eq_some_iff.1 hb).1⟩
/-- The table is done: its top row, its rows. -/
theorem OwnM.done {w : World} {base : Nat} {v : Value} {n : Nat} {rs : Nat → Nat} (h : OwnM w base v n rs n) (hn : 1 ≤ n) : ∃ G c, v = .slice (some ⟨G, 0, none⟩) n c ∧ base ≤ G ∧ G < w.heap.size ∧ MTop w G c rs n ∧ MRows w rs n (fun a b => decide (b = a)) ∧ (∀ a, a < n → G ≠ rs a) := by
  obtain ⟨G, c, rfl, hb, hl⟩ := own_posM h.top (by omega)
  refine ⟨G, c, rfl, hb, hl, ⟨fun a ha => ?_, hn, ?_⟩, h.row, fun a ha e => h.own a ha (by rw [e]; rfl)⟩
  · have := h.top.cells (g := G) rfl a _ (rowsV_get ha)
    have e : (⟨G, 0, none⟩ : Addr).add a = ⟨G, a, none⟩ := by cases a <;> simp [Addr.add]
    rwa [e] at this
  · rcases h.top.2 with ⟨_, h0⟩ | ⟨g', cap, cur, e, _, _, hnc, hcm, _⟩
    · omega
    · injection e with e1 e2 e3
      subst e3
      exact ⟨hnc, by unfold maxLen at hcm; omega⟩
def OrderRet (L : Ltc) (w : World) (e : Ending) (w' : World) : Prop := ∃ G c, e = .returned (.slice (some ⟨G, 0, none⟩) L.elems.length c) ∧ IsMat w' G c L.elems.length (ordL L) ∧ Below w.heap.size w w'
set_option maxHeartbeats 8000000 in
set_option maxRecDepth 100000 in
theorem Order_ref (v : Value) (L : Ltc) (w : World) (h : IsLtc w v L) (hA : argsOk L = true) : Calls Tryd.prog 32 #[v] w (OrderRet L w) := by
  obtain ⟨hn8, hn1, hc64, hrg⟩ := args_parts hA
  have HRG := Lib.hid hrg
  clear hrg hA
  have h0 := h
  obtain ⟨ea, ec, ca, cc, rfl, -, -, m1, m2, m3⟩ := h.shape
  have hCO := (h0.sides).2
  have g0 := heap_alloc_new w (.cells #[.string L.name.1, .slice ea L.elems.length ec, .slice ca L.covers.length cc, .int .i64 L.at_] 25)
  have b0 := below_new w (.cells #[.string L.name.1, .slice ea L.elems.length ec, .slice ca L.covers.length cc, .int .i64 L.at_] 25)
  obtain ⟨wb, hwb⟩ : ∃ x : World, x = w.alloc (.cells #[.string L.name.1, .slice ea L.elems.length ec, .slice ca L.covers.length cc, .int .i64 L.at_] 25) := ⟨_, rfl⟩
  rw [← hwb] at g0 b0
  obtain ⟨y0, y1, y2, y3⟩ := Box4.of g0
  have hmk := run_mkB L.elems.length (by omega)
  have o1 := OwnM.zero wb L.elems.length fun _ => 0
  have b1 := below_new wb (.cells #[] 53)
  go_enter Tryd.func32, Tryd.ntmps32
  go_upto_region 2 with fail
  rw [← hwb]
  clear hwb y0 y1 y2 y3
  go_wp2
  go_loopw [5, 4, 6] (fun i ov _ wr => ∃ (k : Nat) (rs : Nat → Nat), k ≤ L.elems.length ∧ i = .int .i64 k ∧ OwnM wr wb.heap.size ov L.elems.length rs k ∧ Below wb.heap.size wb wr) (fun i _ _ _ => L.elems.length - (intOf i).toNat)
  case atStart => exact ⟨0, _, Nat.zero_le _, rfl, o1, b1⟩
  case round =>
    clear o1 b1
    obtain ⟨k, rs, hk, rfl, hO, bR⟩ := hrel
    obtain ⟨wo, rfl⟩ : ∃ wo : World, wo = wr := ⟨_, rfl⟩
    obtain ⟨pa, pc, rfl⟩ := own_slice hO.top
    have hsz := bR.size
    by_cases hlt : k < L.elems.length
    · have hd : decide (k < L.elems.length) = true := decide_eq_true hlt
      have hkI : (k : Int) < (L.elems.length : Int) := by omega
      have hk0 : (0 : Int) ≤ (k : Int) := by omega
      go_upto_region 7 with fail
      have r1 := BRow.new wo L.elems.length fun _ => false
      have bA := below_new wo (.cells (boolsV L.elems.length fun _ => false).toArray 4)
      obtain ⟨w2, hw2⟩ : ∃ x : World, x = wo.alloc (.cells (boolsV L.elems.length fun _ => false).toArray 4) := ⟨_, rfl⟩
      rw [← hw2] at r1 bA
      rw [← hw2]
      have hs2 : wo.heap.size + 1 ≤ w2.heap.size := r1.lt
      have HS2 := Lib.hid (show w2.heap.size = wo.heap.size + 1 by rw [hw2]; simp)
      clear hw2
      have hcx := r1.cell hlt
      have hfx := r1.free (b := k)
      go_upto_region 8 with fail
      have r2 := (r1.set k true).congr (p := fun b => decide (b = k)) fun j _ => by by_cases e : j = k <;> simp [e]
      have b2 : Below wo.heap.size wo (w2.setCell ⟨wo.heap.size, k, none⟩ (.bool true)) := bA.setCell (p := ⟨wo.heap.size, k, none⟩) (Nat.le_refl _) _
      obtain ⟨w3, hw3⟩ : ∃ x : World, x = w2.setCell ⟨wo.heap.size, k, none⟩ (.bool true) := ⟨_, rfl⟩
      rw [← hw3] at r2 b2
      rw [← hw3]
      have hs3 : wo.heap.size + 1 ≤ w3.heap.size := r2.lt
      clear hw3 hcx hfx r1 bA
      have b3 := below_trans b2 (below_new w3 (.cells #[.slice (some ⟨wo.heap.size, 0, none⟩) L.elems.length L.elems.length] 53))
      have r3 := r2.keep (below_new w3 (.cells #[.slice (some ⟨wo.heap.size, 0, none⟩) L.elems.length L.elems.length] 53))
      go_wp2_with (at_builtin; refine step_pushM (wr := wo) (g := wo.heap.size) (g1 := w3.heap.size) rfl (.tmp 25) (.tmp 27) rfl rfl rfl hO b3 (Nat.le_refl _) (by omega) r3 (heap_alloc_new w3 _) hsz (by omega) ?_; intro p9 c9 w9 hO9 b9; have b09 := bR.trans b9)
      go_roundw
      case rel => exact ⟨k + 1, _, by omega, by go_num, hO9, b09⟩
      case measure => simp [intOf]; omega
    · have e : k = L.elems.length := by omega
      subst e
      have hd : decide (L.elems.length < L.elems.length) = false := decide_eq_false hlt
      obtain ⟨G, c, hv, hGb, hGl, hT, hM0, hGr⟩ := hO.done hn1
      injection hv with e1 _ e3
      subst e1 e3
      have HIN := Lib.hid hO.inj
      have HLO := Lib.hid hO.lo
      clear hO
      replace hM0 : MRows wo rs L.elems.length (start L.elems.length (L.covers.take 0)) := hM0.congr fun a b ha hb => by rw [List.take_zero, start_nil, decide_eq_true ha, Bool.and_true, decide_eq_decide]; omega
      obtain ⟨y0, y1, y2, y3⟩ := Box4.of (block_keep g0 bR)
      have hwG := Nat.lt_of_lt_of_le (block_lt g0) hGb
      go_upto_region 9 with fail
      clear y0 y1 y2 y3 hd hmk
      obtain ⟨w1, HW1⟩ : ∃ x : World, x = wo := ⟨_, rfl⟩
      rw [← HW1] at hT hM0 bR ⊢
      clear HW1
      go_wp2
      go_loopw [7] (fun i wr => ∃ k : Nat, k ≤ L.covers.length ∧ i = .int .i64 k ∧ MRows wr rs L.elems.length (start L.elems.length (L.covers.take k)) ∧ wr.heap[G]? = w1.heap[G]? ∧ Below wb.heap.size wb wr) (fun i _ => L.covers.length - (intOf i).toNat)
      case atStart => exact ⟨0, Nat.zero_le _, rfl, hM0, rfl, bR⟩
      case round =>
        clear hM0 bR
        obtain ⟨k, hk, rfl, hM, hG, bR⟩ := hrel
        obtain ⟨wo, rfl⟩ : ∃ wo : World, wo = wr := ⟨_, rfl⟩
        by_cases hlt : k < L.covers.length
        · have hd : decide (k < L.covers.length) = true := decide_eq_true hlt
          have hcr := HRG.out _ (List.getElem_mem hlt)
          have hce := List.getElem?_eq_getElem hlt
          have HTK := Lib.hid (List.take_succ_eq_append_getElem hlt)
          generalize L.covers[k] = c at *
          obtain ⟨c1, c2⟩ := c
          dsimp only at hcr
          obtain ⟨i1, i2, i3, i4⟩ := hcr
          obtain ⟨a, rfl⟩ := Int.eq_ofNat_of_zero_le i1
          obtain ⟨b, rfl⟩ := Int.eq_ofNat_of_zero_le i3
          have ha : a < L.elems.length := by omega
          have hb : b < L.elems.length := by omega
          obtain ⟨b2, of2, hcx, hd1, hd2⟩ := hCO.at_ hce
          cases hcx
          clear hce
          have hkI : (k : Int) < (L.covers.length : Int) := by omega
          have hk0 : (0 : Int) ≤ (k : Int) := by omega
          have hd1o := cell_keep (below_trans b0 bR) hd1
          have hd2o := cell_keep (below_trans b0 bR) hd2
          have hcG := (hT.of_block hG).1 a ha
          have hcx := (hM a ha).cell hb
          have hfx := (hM a ha).free (b := b)
          obtain ⟨y0, y1, y2, y3⟩ := Box4.of (block_keep g0 bR)
          go_upto_region 12 with fail
          refine wp_region_noPanic ?_
          refine wp_region_late (fun w' => w'.cell? ⟨w.heap.size, 2, none⟩ = some (.slice (some ⟨b2, of2, none⟩) L.covers.length cc) ∧ w'.cell? ⟨b2, of2 + k * 2, none⟩ = some (.int .i64 a) ∧ w'.cell? ⟨b2, of2 + k * 2 + 1, none⟩ = some (.int .i64 b) ∧ w'.cell? ⟨G, a, none⟩ = some (.slice (some ⟨rs a, 0, none⟩) L.elems.length L.elems.length) ∧ w'.cell? ⟨rs a, b, none⟩ = some (.bool (start L.elems.length (L.covers.take k) a b))) 16 (by kernel_rfl) (⟨y2, hd1o, hd2o, hcG, hcx⟩) (fun hHeld => ?_)
          refine any_take (by kernel_rfl) (i := 0) (oi := _) (v := ?_) rfl rfl (by kernel_rfl) (by kernel_rfl) (by kernel_rfl) (fun _ _ _ h => h) (Or.inl ⟨by rfl, ?_⟩) hHeld ?_
          rotate_left
          · intro w' hSw; try dsimp only at hSw
            go_simp
            try with_reducible rfl
          try simp only [puts, gets]
          refine any_take (by kernel_rfl) (i := 1) (oi := _) (v := ?_) rfl rfl (by kernel_rfl) (by kernel_rfl) (by kernel_rfl) (fun _ _ _ h => h) (Or.inl ⟨by rfl, ?_⟩) hHeld ?_
          rotate_left
          · intro w' hSw; try dsimp only at hSw
            go_simp
            try with_reducible rfl
          try simp only [puts, gets]
          refine any_take (by kernel_rfl) (i := 2) (oi := _) (v := ?_) rfl rfl (by kernel_rfl) (by kernel_rfl) (by kernel_rfl) (fun _ _ _ h => h) (Or.inl ⟨by rfl, ?_⟩) hHeld ?_
          rotate_left
          · intro w' hSw; try dsimp only at hSw
            go_simp
            try with_reducible rfl
          try simp only [puts, gets]
          refine any_take (by kernel_rfl) (i := 3) (oi := _) (v := ?_) rfl rfl (by kernel_rfl) (by kernel_rfl) (by kernel_rfl) (fun _ _ _ h => h) (Or.inl ⟨by rfl, ?_⟩) hHeld ?_
          rotate_left
          · intro w' hSw; try dsimp only at hSw
            go_simp
            try with_reducible rfl
          try simp only [puts, gets]
          refine any_take (by kernel_rfl) (i := 4) (oi := _) (v := ?_) rfl rfl (by kernel_rfl) (by kernel_rfl) (by kernel_rfl) (fun _ _ _ h => h) (Or.inl ⟨by rfl, ?_⟩) hHeld ?_
          rotate_left
          · intro w' hSw; try dsimp only at hSw
            go_simp
            try with_reducible rfl
          try simp only [puts, gets]
          refine any_take (by kernel_rfl) (i := 5) (oi := _) (v := ?_) rfl rfl (by kernel_rfl) (by kernel_rfl) (by kernel_rfl) (fun _ _ _ h => h) (Or.inl ⟨by rfl, ?_⟩) hHeld ?_
          rotate_left
          · intro w' hSw; try dsimp only at hSw
            go_simp
            try with_reducible rfl
          try simp only [puts, gets]
          refine any_take (by kernel_rfl) (i := 6) (oi := _) (v := ?_) rfl rfl (by kernel_rfl) (by kernel_rfl) (by kernel_rfl) (fun _ _ _ h => h) (Or.inl ⟨by rfl, ?_⟩) hHeld ?_
          rotate_left
          · intro w' hSw; try dsimp only at hSw
            go_simp
            try with_reducible rfl
          try simp only [puts, gets]
          refine any_take (by kernel_rfl) (i := 7) (oi := _) (v := ?_) rfl rfl (by kernel_rfl) (by kernel_rfl) (by kernel_rfl) (fun _ _ _ h => h) (Or.inl ⟨by rfl, ?_⟩) hHeld ?_
          rotate_left
          · intro w' hSw; try dsimp only at hSw
            go_simp
            try with_reducible rfl
          try simp only [puts, gets]
          refine any_take (by kernel_rfl) (i := 8) (oi := _) (v := ?_) rfl rfl (by kernel_rfl) (by kernel_rfl) (by kernel_rfl) (fun _ _ _ h => h) (Or.inl ⟨by rfl, ?_⟩) hHeld ?_
          rotate_left
          · intro w' hSw; try dsimp only at hSw
            go_simp
            try with_reducible rfl
          try simp only [puts, gets]
          refine any_take (by kernel_rfl) (i := 9) (oi := _) (v := ?_) rfl rfl (by kernel_rfl) (by kernel_rfl) (by kernel_rfl) (fun _ _ _ h => h) (Or.inl ⟨by rfl, ?_⟩) hHeld ?_
          rotate_left
          · intro w' hSw; try dsimp only at hSw
            go_simp
            try with_reducible rfl
          try simp only [puts, gets]
          refine any_take (by kernel_rfl) (i := 10) (oi := _) (v := ?_) rfl rfl (by kernel_rfl) (by kernel_rfl) (by kernel_rfl) (fun _ _ _ h => h) (Or.inl ⟨by rfl, ?_⟩) hHeld ?_
          rotate_left
          · intro w' hSw; try dsimp only at hSw
            go_simp
            try with_reducible rfl
          try simp only [puts, gets]
          refine any_take (by kernel_rfl) (i := 11) (oi := _) (v := ?_) rfl rfl (by kernel_rfl) (by kernel_rfl) (by kernel_rfl) (fun _ _ _ h => h) (Or.inl ⟨by rfl, ?_⟩) hHeld ?_
          rotate_left
          · intro w' hSw; try dsimp only at hSw
            go_simp
            try with_reducible rfl
          try simp only [puts, gets]
          refine any_take (by kernel_rfl) (i := 12) (oi := _) (v := ?_) rfl rfl (by kernel_rfl) (by kernel_rfl) (by kernel_rfl) (fun _ _ _ h => h) (Or.inl ⟨by rfl, ?_⟩) hHeld ?_
          rotate_left
          · intro w' hSw; try dsimp only at hSw
            go_simp
            try with_reducible rfl
          try simp only [puts, gets]
          refine any_take (by kernel_rfl) (i := 13) (oi := _) (v := ?_) rfl rfl (by kernel_rfl) (by kernel_rfl) (by kernel_rfl) (fun _ _ _ h => h) (Or.inl ⟨by rfl, ?_⟩) hHeld ?_
          rotate_left
          · intro w' hSw; try dsimp only at hSw
            go_simp
            try with_reducible rfl
          try simp only [puts, gets]
          refine any_take (by kernel_rfl) (i := 14) (oi := _) (v := ?_) rfl rfl (by kernel_rfl) (by kernel_rfl) (by kernel_rfl) (fun _ _ _ h => h) (Or.inl ⟨by rfl, ?_⟩) hHeld ?_
          rotate_left
          · intro w' hSw; try dsimp only at hSw
            go_simp
            try with_reducible rfl
          try simp only [puts, gets]
          refine any_take (by kernel_rfl) (i := 15) (oi := _) (v := ?_) rfl rfl (by kernel_rfl) (by kernel_rfl) (by kernel_rfl) (fun _ _ _ h => h) (Or.inl ⟨by rfl, ?_⟩) hHeld ?_
          rotate_left
          · intro w' hSw; try dsimp only at hSw
            go_simp
            try with_reducible rfl
          try simp only [puts, gets]
          refine any_late (i := 16) (by kernel_rfl) rfl rfl (fun K hK => ?_)
          go_simp
          refine hK.out _ _ ?_
          clear hK K
          try simp only [puts, gets]
          refine any_done (by kernel_rfl) ?_ _
          refine NoPanic.normal ?_
          go_wp2
          go_roundw
          case rel =>
            refine ⟨k + 1, by omega, by go_num, (show MRows (wo.setCell ⟨rs a, b, none⟩ (.bool true)) rs L.elems.length _ from (hM.set HIN.out ha true).congr fun i j _ _ => ?_), (heap_setCell_other wo ⟨rs a, b, none⟩ G _ (hGr a ha)).trans hG, below_drew' (bR.setCell (p := ⟨rs a, b, none⟩) (HLO.out a ha) _)⟩
            rw [HTK.out, start_snoc]
            by_cases e : i = a
            · subst e; by_cases e2 : j = b
              · subst e2; simp
              · have : ¬ b = j := fun h => e2 h.symm
                simp [e2, this]
            · simp [e]
          case measure => simp [intOf]; omega
        · have e : k = L.covers.length := by omega
          subst e
          have hd : decide (L.covers.length < L.covers.length) = false := decide_eq_false hlt
          rw [List.take_length] at hM
          obtain ⟨y0, y1, y2, y3⟩ := Box4.of (block_keep g0 bR)
          go_upto_region 13 with fail
          clear y0 y1 y2 y3 hd
          obtain ⟨st, HST⟩ : ∃ s, Hid (start L.elems.length L.covers = s) := ⟨_, Lib.hid rfl⟩
          rw [HST.out] at hM
          obtain ⟨w4, HW4⟩ : ∃ x : World, x = wo := ⟨_, rfl⟩
          rw [← HW4] at hM hG bR ⊢
          clear HW4
          go_wp2
          go_loopw [8, 9, 10] (fun i _ _ wr => ∃ k : Nat, k ≤ L.elems.length ∧ i = .int .i64 k ∧ MRows wr rs L.elems.length (warsh k st) ∧ wr.heap[G]? = w1.heap[G]? ∧ Below wb.heap.size wb wr) (fun i _ _ _ => L.elems.length - (intOf i).toNat)
          case atStart => exact ⟨0, Nat.zero_le _, rfl, hM, hG, bR⟩
          case round =>
            clear hM hG bR
            obtain ⟨k, hk, rfl, hM, hG, bR⟩ := hrel
            obtain ⟨wo, rfl⟩ : ∃ wo : World, wo = wr := ⟨_, rfl⟩
            by_cases hlk : k < L.elems.length
            · have hdk : decide (k < L.elems.length) = true := decide_eq_true hlk
              obtain ⟨o, HO⟩ : ∃ o, Hid (warsh k st = o) := ⟨_, Lib.hid rfl⟩
              rw [HO.out] at hM
              rw [← part2_zero k o] at hM
              go_wp2
              go_loopw [9, 10] (fun i _ wr => ∃ a : Nat, a ≤ L.elems.length ∧ i = .int .i64 a ∧ MRows wr rs L.elems.length (part2 k a 0 o) ∧ wr.heap[G]? = w1.heap[G]? ∧ Below wb.heap.size wb wr) (fun i _ _ => L.elems.length - (intOf i).toNat)
              case atStart => exact ⟨0, Nat.zero_le _, rfl, hM, hG, bR⟩
              case round =>
                clear hM hG bR
                obtain ⟨a, ha, rfl, hM, hG, bR⟩ := hrel
                obtain ⟨wo, rfl⟩ : ∃ wo : World, wo = wr := ⟨_, rfl⟩
                by_cases hla : a < L.elems.length
                · have hda : decide (a < L.elems.length) = true := decide_eq_true hla
                  go_wp2
                  go_loopw [10] (fun i wr => ∃ b : Nat, b ≤ L.elems.length ∧ i = .int .i64 b ∧ MRows wr rs L.elems.length (part2 k a b o) ∧ wr.heap[G]? = w1.heap[G]? ∧ Below wb.heap.size wb wr) (fun i _ => L.elems.length - (intOf i).toNat)
                  case atStart => exact ⟨0, Nat.zero_le _, rfl, hM, hG, bR⟩
                  case round =>
                    clear hM hG bR
                    obtain ⟨b, hb, rfl, hM, hG, bR⟩ := hrel
                    obtain ⟨wo, rfl⟩ : ∃ wo : World, wo = wr := ⟨_, rfl⟩
                    by_cases hlb : b < L.elems.length
                    · have hdb : decide (b < L.elems.length) = true := decide_eq_true hlb
                      have haI : (a : Int) < (L.elems.length : Int) := by omega
                      have ha0 : (0 : Int) ≤ (a : Int) := by omega
                      have hbI : (b : Int) < (L.elems.length : Int) := by omega
                      have hb0 : (0 : Int) ≤ (b : Int) := by omega
                      have hkI : (k : Int) < (L.elems.length : Int) := by omega
                      have hk0 : (0 : Int) ≤ (k : Int) := by omega
                      have hcA := (hT.of_block hG).1 a hla
                      have hcK := (hT.of_block hG).1 k hlk
                      have hc1 := (hM a hla).cell hlb
                      have hc2 := (hM a hla).cell hlk
                      have hc3 := (hM k hlk).cell hlb
                      rw [part2_at] at hc1
                      rw [part2_col] at hc2
                      rw [part2_row] at hc3
                      have hfx := (hM a hla).free (b := b)
                      obtain ⟨x1, hx1⟩ : ∃ x, o a b = x := ⟨_, rfl⟩
                      obtain ⟨x2, hx2⟩ : ∃ x, o a k = x := ⟨_, rfl⟩
                      obtain ⟨x3, hx3⟩ : ∃ x, o k b = x := ⟨_, rfl⟩
                      rw [hx1] at hc1
                      rw [hx2] at hc2
                      rw [hx3] at hc3
                      have HX := Lib.hid (show pass k o a b = (x1 || (x2 && x3)) by unfold pass; rw [hx1, hx2, hx3])
                      clear hx1 hx2 hx3
                      go_upto_region 22 with fail
                      cases x1
                      · cases x2
                        · skip
                          refine wp_region_noPanic ?_
                          refine wp_region_late (fun w' => w'.cell? ⟨G, a, none⟩ = some (.slice (some ⟨rs a, 0, none⟩) L.elems.length L.elems.length) ∧ w'.cell? ⟨G, k, none⟩ = some (.slice (some ⟨rs k, 0, none⟩) L.elems.length L.elems.length) ∧ w'.cell? ⟨rs a, b, none⟩ = some (.bool false) ∧ w'.cell? ⟨rs a, k, none⟩ = some (.bool false) ∧ w'.cell? ⟨rs k, b, none⟩ = some (.bool x3)) 31 (by kernel_rfl) (⟨hcA, hcK, hc1, hc2, hc3⟩) (fun hHeld => ?_)
                          refine any_take (by kernel_rfl) (i := 0) (oi := _) (v := ?_) rfl rfl (by kernel_rfl) (by kernel_rfl) (by kernel_rfl) (fun _ _ _ h => h) (Or.inl ⟨by rfl, ?_⟩) hHeld ?_
                          rotate_left
                          · intro w' hSw; try dsimp only at hSw
                            go_simp
                            try with_reducible rfl
                          try simp only [puts, gets]
                          refine any_take (by kernel_rfl) (i := 1) (oi := _) (v := ?_) rfl rfl (by kernel_rfl) (by kernel_rfl) (by kernel_rfl) (fun _ _ _ h => h) (Or.inl ⟨by rfl, ?_⟩) hHeld ?_
                          rotate_left
                          · intro w' hSw; try dsimp only at hSw
                            go_simp
                            try with_reducible rfl
                          try simp only [puts, gets]
                          refine any_take (by kernel_rfl) (i := 2) (oi := _) (v := ?_) rfl rfl (by kernel_rfl) (by kernel_rfl) (by kernel_rfl) (fun _ _ _ h => h) (Or.inl ⟨by rfl, ?_⟩) hHeld ?_
                          rotate_left
                          · intro w' hSw; try dsimp only at hSw
                            go_simp
                            try with_reducible rfl
                          try simp only [puts, gets]
                          refine any_take (by kernel_rfl) (i := 3) (oi := _) (v := ?_) rfl rfl (by kernel_rfl) (by kernel_rfl) (by kernel_rfl) (fun _ _ _ h => h) (Or.inl ⟨by rfl, ?_⟩) hHeld ?_
                          rotate_left
                          · intro w' hSw; try dsimp only at hSw
                            go_simp
                            try with_reducible rfl
                          try simp only [puts, gets]
                          refine any_take (by kernel_rfl) (i := 4) (oi := _) (v := ?_) rfl rfl (by kernel_rfl) (by kernel_rfl) (by kernel_rfl) (fun _ _ _ h => h) (Or.inl ⟨by rfl, ?_⟩) hHeld ?_
                          rotate_left
                          · intro w' hSw; try dsimp only at hSw
                            go_simp
                            try with_reducible rfl
                          try simp only [puts, gets]
                          refine any_take (by kernel_rfl) (i := 5) (oi := _) (v := ?_) rfl rfl (by kernel_rfl) (by kernel_rfl) (by kernel_rfl) (fun _ _ _ h => h) (Or.inl ⟨by rfl, ?_⟩) hHeld ?_
                          rotate_left
                          · intro w' hSw; try dsimp only at hSw
                            go_simp
                            try with_reducible rfl
                          try simp only [puts, gets]
                          refine any_take (by kernel_rfl) (i := 6) (oi := _) (v := ?_) rfl rfl (by kernel_rfl) (by kernel_rfl) (by kernel_rfl) (fun _ _ _ h => h) (Or.inl ⟨by rfl, ?_⟩) hHeld ?_
                          rotate_left
                          · intro w' hSw; try dsimp only at hSw
                            go_simp
                            try with_reducible rfl
                          try simp only [puts, gets]
                          refine any_take (by kernel_rfl) (i := 7) (oi := _) (v := ?_) rfl rfl (by kernel_rfl) (by kernel_rfl) (by kernel_rfl) (fun _ _ _ h => h) (Or.inl ⟨by rfl, ?_⟩) hHeld ?_
                          rotate_left
                          · intro w' hSw; try dsimp only at hSw
                            go_simp
                            try with_reducible rfl
                          try simp only [puts, gets]
                          refine any_take (by kernel_rfl) (i := 8) (oi := _) (v := ?_) rfl rfl (by kernel_rfl) (by kernel_rfl) (by kernel_rfl) (fun _ _ _ h => h) (Or.inl ⟨by rfl, ?_⟩) hHeld ?_
                          rotate_left
                          · intro w' hSw; try dsimp only at hSw
                            go_simp
                            try with_reducible rfl
                          try simp only [puts, gets]
                          refine any_take (by kernel_rfl) (i := 9) (oi := _) (v := ?_) rfl rfl (by kernel_rfl) (by kernel_rfl) (by kernel_rfl) (fun _ _ _ h => h) (Or.inl ⟨by rfl, ?_⟩) hHeld ?_
                          rotate_left
                          · intro w' hSw; try dsimp only at hSw
                            go_simp
                            try with_reducible rfl
                          try simp only [puts, gets]
                          refine any_take (by kernel_rfl) (i := 10) (oi := _) (v := ?_) rfl rfl (by kernel_rfl) (by kernel_rfl) (by kernel_rfl) (fun _ _ _ h => h) (Or.inl ⟨by rfl, ?_⟩) hHeld ?_
                          rotate_left
                          · intro w' hSw; try dsimp only at hSw
                            go_simp
                            try with_reducible rfl
                          try simp only [puts, gets]
                          refine any_take (by kernel_rfl) (i := 11) (oi := _) (v := ?_) rfl rfl (by kernel_rfl) (by kernel_rfl) (by kernel_rfl) (fun _ _ _ h => h) (Or.inl ⟨by rfl, ?_⟩) hHeld ?_
                          rotate_left
                          · intro w' hSw; try dsimp only at hSw
                            go_simp
                            try with_reducible rfl
                          try simp only [puts, gets]
                          refine any_take (by kernel_rfl) (i := 12) (oi := _) (v := ?_) rfl rfl (by kernel_rfl) (by kernel_rfl) (by kernel_rfl) (fun _ _ _ h => h) (Or.inl ⟨by rfl, ?_⟩) hHeld ?_
                          rotate_left
                          · intro w' hSw; try dsimp only at hSw
                            go_simp
                            try with_reducible rfl
                          try simp only [puts, gets]
                          refine any_take (by kernel_rfl) (i := 13) (oi := _) (v := ?_) rfl rfl (by kernel_rfl) (by kernel_rfl) (by kernel_rfl) (fun _ _ _ h => h) (Or.inl ⟨by rfl, ?_⟩) hHeld ?_
                          rotate_left
                          · intro w' hSw; try dsimp only at hSw
                            go_simp
                            try with_reducible rfl
                          try simp only [puts, gets]
                          refine any_take (by kernel_rfl) (i := 14) (oi := _) (v := ?_) rfl rfl (by kernel_rfl) (by kernel_rfl) (by kernel_rfl) (fun _ _ _ h => h) (Or.inl ⟨by rfl, ?_⟩) hHeld ?_
                          rotate_left
                          · intro w' hSw; try dsimp only at hSw
                            go_simp
                            try with_reducible rfl
                          try simp only [puts, gets]
                          refine any_take (by kernel_rfl) (i := 15) (oi := _) (v := ?_) rfl rfl (by kernel_rfl) (by kernel_rfl) (by kernel_rfl) (fun _ _ _ h => h) (Or.inl ⟨by rfl, ?_⟩) hHeld ?_
                          rotate_left
                          · intro w' hSw; try dsimp only at hSw
                            go_simp
                            try with_reducible rfl
                          try simp only [puts, gets]
                          refine any_take (by kernel_rfl) (i := 16) (oi := _) (v := ?_) rfl rfl (by kernel_rfl) (by kernel_rfl) (by kernel_rfl) (fun _ _ _ h => h) (Or.inl ⟨by rfl, ?_⟩) hHeld ?_
                          rotate_left
                          · intro w' hSw; try dsimp only at hSw
                            go_simp
                            try with_reducible rfl
                          try simp only [puts, gets]
                          refine any_take (by kernel_rfl) (i := 17) (oi := _) (v := ?_) rfl rfl (by kernel_rfl) (by kernel_rfl) (by kernel_rfl) (fun _ _ _ h => h) (Or.inl ⟨by rfl, ?_⟩) hHeld ?_
                          rotate_left
                          · intro w' hSw; try dsimp only at hSw
                            go_simp
                            try with_reducible rfl
                          try simp only [puts, gets]
                          refine any_take (by kernel_rfl) (i := 18) (oi := _) (v := ?_) rfl rfl (by kernel_rfl) (by kernel_rfl) (by kernel_rfl) (fun _ _ _ h => h) (Or.inl ⟨by rfl, ?_⟩) hHeld ?_
                          rotate_left
                          · intro w' hSw; try dsimp only at hSw
                            go_simp
                            try with_reducible rfl
                          try simp only [puts, gets]
                          refine any_take (by kernel_rfl) (i := 19) (oi := _) (v := ?_) rfl rfl (by kernel_rfl) (by kernel_rfl) (by kernel_rfl) (fun _ _ _ h => h) (Or.inl ⟨by rfl, ?_⟩) hHeld ?_
                          rotate_left
                          · intro w' hSw; try dsimp only at hSw
                            go_simp
                            try with_reducible rfl
                          try simp only [puts, gets]
                          refine any_take (by kernel_rfl) (i := 20) (oi := _) (v := ?_) rfl rfl (by kernel_rfl) (by kernel_rfl) (by kernel_rfl) (fun _ _ _ h => h) (Or.inl ⟨by rfl, ?_⟩) hHeld ?_
                          rotate_left
                          · intro w' hSw; try dsimp only at hSw
                            go_simp
                            try with_reducible rfl
                          try simp only [puts, gets]
                          refine any_take (by kernel_rfl) (i := 21) (oi := _) (v := undef) rfl rfl (by kernel_rfl) (by kernel_rfl) (by kernel_rfl) (fun _ _ _ h => h) (Or.inr ⟨by rfl, rfl⟩) hHeld ?_
                          try simp only [puts, gets]
                          refine any_take (by kernel_rfl) (i := 22) (oi := _) (v := undef) rfl rfl (by kernel_rfl) (by kernel_rfl) (by kernel_rfl) (fun _ _ _ h => h) (Or.inr ⟨by rfl, rfl⟩) hHeld ?_
                          try simp only [puts, gets]
                          refine any_take (by kernel_rfl) (i := 23) (oi := _) (v := undef) rfl rfl (by kernel_rfl) (by kernel_rfl) (by kernel_rfl) (fun _ _ _ h => h) (Or.inr ⟨by rfl, rfl⟩) hHeld ?_
                          try simp only [puts, gets]
                          refine any_take (by kernel_rfl) (i := 24) (oi := _) (v := undef) rfl rfl (by kernel_rfl) (by kernel_rfl) (by kernel_rfl) (fun _ _ _ h => h) (Or.inr ⟨by rfl, rfl⟩) hHeld ?_
                          try simp only [puts, gets]
                          refine any_take (by kernel_rfl) (i := 25) (oi := _) (v := undef) rfl rfl (by kernel_rfl) (by kernel_rfl) (by kernel_rfl) (fun _ _ _ h => h) (Or.inr ⟨by rfl, rfl⟩) hHeld ?_
                          try simp only [puts, gets]
                          refine any_take (by kernel_rfl) (i := 26) (oi := _) (v := undef) rfl rfl (by kernel_rfl) (by kernel_rfl) (by kernel_rfl) (fun _ _ _ h => h) (Or.inr ⟨by rfl, rfl⟩) hHeld ?_
                          try simp only [puts, gets]
                          refine any_take (by kernel_rfl) (i := 27) (oi := _) (v := undef) rfl rfl (by kernel_rfl) (by kernel_rfl) (by kernel_rfl) (fun _ _ _ h => h) (Or.inr ⟨by rfl, rfl⟩) hHeld ?_
                          try simp only [puts, gets]
                          refine any_take (by kernel_rfl) (i := 28) (oi := _) (v := ?_) rfl rfl (by kernel_rfl) (by kernel_rfl) (by kernel_rfl) (fun _ _ _ h => h) (Or.inl ⟨by rfl, ?_⟩) hHeld ?_
                          rotate_left
                          · intro w' hSw; try dsimp only at hSw
                            go_simp
                            try with_reducible rfl
                          try simp only [puts, gets]
                          refine any_take (by kernel_rfl) (i := 29) (oi := _) (v := ?_) rfl rfl (by kernel_rfl) (by kernel_rfl) (by kernel_rfl) (fun _ _ _ h => h) (Or.inl ⟨by rfl, ?_⟩) hHeld ?_
                          rotate_left
                          · intro w' hSw; try dsimp only at hSw
                            go_simp
                            try with_reducible rfl
                          try simp only [puts, gets]
                          refine any_take (by kernel_rfl) (i := 30) (oi := _) (v := ?_) rfl rfl (by kernel_rfl) (by kernel_rfl) (by kernel_rfl) (fun _ _ _ h => h) (Or.inl ⟨by rfl, ?_⟩) hHeld ?_
                          rotate_left
                          · intro w' hSw; try dsimp only at hSw
                            go_simp
                            try with_reducible rfl
                          try simp only [puts, gets]
                          refine any_late (i := 31) (by kernel_rfl) rfl rfl (fun K hK => ?_)
                          go_simp
                          refine hK.out _ _ ?_
                          clear hK K
                          try simp only [puts, gets]
                          refine any_done (by kernel_rfl) ?_ _
                          refine NoPanic.normal ?_
                          go_wp2
                          go_roundw
                          case rel =>
                            exact ⟨b + 1, by omega, by go_num, (show MRows (wo.setCell ⟨rs a, b, none⟩ (.bool false)) rs L.elems.length _ from (hM.set HIN.out hla false).congr fun i j _ _ => by rw [← part2_set, HX.out]; rfl), (heap_setCell_other wo ⟨rs a, b, none⟩ G _ (hGr a hla)).trans hG, below_drew' (bR.setCell (p := ⟨rs a, b, none⟩) (HLO.out a hla) _)⟩
                          case measure => simp [intOf]; omega
                        · skip
                          refine wp_region_noPanic ?_
                          refine wp_region_late (fun w' => w'.cell? ⟨G, a, none⟩ = some (.slice (some ⟨rs a, 0, none⟩) L.elems.length L.elems.length) ∧ w'.cell? ⟨G, k, none⟩ = some (.slice (some ⟨rs k, 0, none⟩) L.elems.length L.elems.length) ∧ w'.cell? ⟨rs a, b, none⟩ = some (.bool false) ∧ w'.cell? ⟨rs a, k, none⟩ = some (.bool true) ∧ w'.cell? ⟨rs k, b, none⟩ = some (.bool x3)) 31 (by kernel_rfl) (⟨hcA, hcK, hc1, hc2, hc3⟩) (fun hHeld => ?_)
                          refine any_take (by kernel_rfl) (i := 0) (oi := _) (v := ?_) rfl rfl (by kernel_rfl) (by kernel_rfl) (by kernel_rfl) (fun _ _ _ h => h) (Or.inl ⟨by rfl, ?_⟩) hHeld ?_
                          rotate_left
                          · intro w' hSw; try dsimp only at hSw
                            go_simp
                            try with_reducible rfl
                          try simp only [puts, gets]
                          refine any_take (by kernel_rfl) (i := 1) (oi := _) (v := ?_) rfl rfl (by kernel_rfl) (by kernel_rfl) (by kernel_rfl) (fun _ _ _ h => h) (Or.inl ⟨by rfl, ?_⟩) hHeld ?_
                          rotate_left
                          · intro w' hSw; try dsimp only at hSw
                            go_simp
                            try with_reducible rfl
                          try simp only [puts, gets]
                          refine any_take (by kernel_rfl) (i := 2) (oi := _) (v := ?_) rfl rfl (by kernel_rfl) (by kernel_rfl) (by kernel_rfl) (fun _ _ _ h => h) (Or.inl ⟨by rfl, ?_⟩) hHeld ?_
                          rotate_left
                          · intro w' hSw; try dsimp only at hSw
                            go_simp
                            try with_reducible rfl
                          try simp only [puts, gets]
                          refine any_take (by kernel_rfl) (i := 3) (oi := _) (v := ?_) rfl rfl (by kernel_rfl) (by kernel_rfl) (by kernel_rfl) (fun _ _ _ h => h) (Or.inl ⟨by rfl, ?_⟩) hHeld ?_
                          rotate_left
                          · intro w' hSw; try dsimp only at hSw
                            go_simp
                            try with_reducible rfl
                          try simp only [puts, gets]
                          refine any_take (by kernel_rfl) (i := 4) (oi := _) (v := ?_) rfl rfl (by kernel_rfl) (by kernel_rfl) (by kernel_rfl) (fun _ _ _ h => h) (Or.inl ⟨by rfl, ?_⟩) hHeld ?_
                          rotate_left
                          · intro w' hSw; try dsimp only at hSw
                            go_simp
                            try with_reducible rfl
                          try simp only [puts, gets]
                          refine any_take (by kernel_rfl) (i := 5) (oi := _) (v := ?_) rfl rfl (by kernel_rfl) (by kernel_rfl) (by kernel_rfl) (fun _ _ _ h => h) (Or.inl ⟨by rfl, ?_⟩) hHeld ?_
                          rotate_left
                          · intro w' hSw; try dsimp only at hSw
                            go_simp
                            try with_reducible rfl
                          try simp only [puts, gets]
                          refine any_take (by kernel_rfl) (i := 6) (oi := _) (v := ?_) rfl rfl (by kernel_rfl) (by kernel_rfl) (by kernel_rfl) (fun _ _ _ h => h) (Or.inl ⟨by rfl, ?_⟩) hHeld ?_
                          rotate_left
                          · intro w' hSw; try dsimp only at hSw
                            go_simp
                            try with_reducible rfl
                          try simp only [puts, gets]
                          refine any_take (by kernel_rfl) (i := 7) (oi := _) (v := ?_) rfl rfl (by kernel_rfl) (by kernel_rfl) (by kernel_rfl) (fun _ _ _ h => h) (Or.inl ⟨by rfl, ?_⟩) hHeld ?_
                          rotate_left
                          · intro w' hSw; try dsimp only at hSw
                            go_simp
                            try with_reducible rfl
                          try simp only [puts, gets]
                          refine any_take (by kernel_rfl) (i := 8) (oi := _) (v := ?_) rfl rfl (by kernel_rfl) (by kernel_rfl) (by kernel_rfl) (fun _ _ _ h => h) (Or.inl ⟨by rfl, ?_⟩) hHeld ?_
                          rotate_left
                          · intro w' hSw; try dsimp only at hSw
                            go_simp
                            try with_reducible rfl
                          try simp only [puts, gets]
                          refine any_take (by kernel_rfl) (i := 9) (oi := _) (v := ?_) rfl rfl (by kernel_rfl) (by kernel_rfl) (by kernel_rfl) (fun _ _ _ h => h) (Or.inl ⟨by rfl, ?_⟩) hHeld ?_
                          rotate_left
                          · intro w' hSw; try dsimp only at hSw
                            go_simp
                            try with_reducible rfl
                          try simp only [puts, gets]
                          refine any_take (by kernel_rfl) (i := 10) (oi := _) (v := ?_) rfl rfl (by kernel_rfl) (by kernel_rfl) (by kernel_rfl) (fun _ _ _ h => h) (Or.inl ⟨by rfl, ?_⟩) hHeld ?_
                          rotate_left
                          · intro w' hSw; try dsimp only at hSw
                            go_simp
                            try with_reducible rfl
                          try simp only [puts, gets]
                          refine any_take (by kernel_rfl) (i := 11) (oi := _) (v := ?_) rfl rfl (by kernel_rfl) (by kernel_rfl) (by kernel_rfl) (fun _ _ _ h => h) (Or.inl ⟨by rfl, ?_⟩) hHeld ?_
                          rotate_left
                          · intro w' hSw; try dsimp only at hSw
                            go_simp
                            try with_reducible rfl
                          try simp only [puts, gets]
                          refine any_take (by kernel_rfl) (i := 12) (oi := _) (v := ?_) rfl rfl (by kernel_rfl) (by kernel_rfl) (by kernel_rfl) (fun _ _ _ h => h) (Or.inl ⟨by rfl, ?_⟩) hHeld ?_
                          rotate_left
                          · intro w' hSw; try dsimp only at hSw
                            go_simp
                            try with_reducible rfl
                          try simp only [puts, gets]
                          refine any_take (by kernel_rfl) (i := 13) (oi := _) (v := ?_) rfl rfl (by kernel_rfl) (by kernel_rfl) (by kernel_rfl) (fun _ _ _ h => h) (Or.inl ⟨by rfl, ?_⟩) hHeld ?_
                          rotate_left
                          · intro w' hSw; try dsimp only at hSw
                            go_simp
                            try with_reducible rfl
                          try simp only [puts, gets]
                          refine any_take (by kernel_rfl) (i := 14) (oi := _) (v := ?_) rfl rfl (by kernel_rfl) (by kernel_rfl) (by kernel_rfl) (fun _ _ _ h => h) (Or.inl ⟨by rfl, ?_⟩) hHeld ?_
                          rotate_left
                          · intro w' hSw; try dsimp only at hSw
                            go_simp
                            try with_reducible rfl
                          try simp only [puts, gets]
                          refine any_take (by kernel_rfl) (i := 15) (oi := _) (v := ?_) rfl rfl (by kernel_rfl) (by kernel_rfl) (by kernel_rfl) (fun _ _ _ h => h) (Or.inl ⟨by rfl, ?_⟩) hHeld ?_
                          rotate_left
                          · intro w' hSw; try dsimp only at hSw
                            go_simp
                            try with_reducible rfl
                          try simp only [puts, gets]
                          refine any_take (by kernel_rfl) (i := 16) (oi := _) (v := ?_) rfl rfl (by kernel_rfl) (by kernel_rfl) (by kernel_rfl) (fun _ _ _ h => h) (Or.inl ⟨by rfl, ?_⟩) hHeld ?_
                          rotate_left
                          · intro w' hSw; try dsimp only at hSw
                            go_simp
                            try with_reducible rfl
                          try simp only [puts, gets]
                          refine any_take (by kernel_rfl) (i := 17) (oi := _) (v := ?_) rfl rfl (by kernel_rfl) (by kernel_rfl) (by kernel_rfl) (fun _ _ _ h => h) (Or.inl ⟨by rfl, ?_⟩) hHeld ?_
                          rotate_left
                          · intro w' hSw; try dsimp only at hSw
                            go_simp
                            try with_reducible rfl
                          try simp only [puts, gets]
                          refine any_take (by kernel_rfl) (i := 18) (oi := _) (v := ?_) rfl rfl (by kernel_rfl) (by kernel_rfl) (by kernel_rfl) (fun _ _ _ h => h) (Or.inl ⟨by rfl, ?_⟩) hHeld ?_
                          rotate_left
                          · intro w' hSw; try dsimp only at hSw
                            go_simp
                            try with_reducible rfl
                          try simp only [puts, gets]
                          refine any_take (by kernel_rfl) (i := 19) (oi := _) (v := ?_) rfl rfl (by kernel_rfl) (by kernel_rfl) (by kernel_rfl) (fun _ _ _ h => h) (Or.inl ⟨by rfl, ?_⟩) hHeld ?_
                          rotate_left
                          · intro w' hSw; try dsimp only at hSw
                            go_simp
                            try with_reducible rfl
                          try simp only [puts, gets]
                          refine any_take (by kernel_rfl) (i := 20) (oi := _) (v := ?_) rfl rfl (by kernel_rfl) (by kernel_rfl) (by kernel_rfl) (fun _ _ _ h => h) (Or.inl ⟨by rfl, ?_⟩) hHeld ?_
                          rotate_left
                          · intro w' hSw; try dsimp only at hSw
                            go_simp
                            try with_reducible rfl
                          try simp only [puts, gets]
                          refine any_take (by kernel_rfl) (i := 21) (oi := _) (v := ?_) rfl rfl (by kernel_rfl) (by kernel_rfl) (by kernel_rfl) (fun _ _ _ h => h) (Or.inl ⟨by rfl, ?_⟩) hHeld ?_
                          rotate_left
                          · intro w' hSw; try dsimp only at hSw
                            go_simp
                            try with_reducible rfl
                          try simp only [puts, gets]
                          refine any_take (by kernel_rfl) (i := 22) (oi := _) (v := ?_) rfl rfl (by kernel_rfl) (by kernel_rfl) (by kernel_rfl) (fun _ _ _ h => h) (Or.inl ⟨by rfl, ?_⟩) hHeld ?_
                          rotate_left
                          · intro w' hSw; try dsimp only at hSw
                            go_simp
                            try with_reducible rfl
                          try simp only [puts, gets]
                          refine any_take (by kernel_rfl) (i := 23) (oi := _) (v := ?_) rfl rfl (by kernel_rfl) (by kernel_rfl) (by kernel_rfl) (fun _ _ _ h => h) (Or.inl ⟨by rfl, ?_⟩) hHeld ?_
                          rotate_left
                          · intro w' hSw; try dsimp only at hSw
                            go_simp
                            try with_reducible rfl
                          try simp only [puts, gets]
                          refine any_take (by kernel_rfl) (i := 24) (oi := _) (v := ?_) rfl rfl (by kernel_rfl) (by kernel_rfl) (by kernel_rfl) (fun _ _ _ h => h) (Or.inl ⟨by rfl, ?_⟩) hHeld ?_
                          rotate_left
                          · intro w' hSw; try dsimp only at hSw
                            go_simp
                            try with_reducible rfl
                          try simp only [puts, gets]
                          refine any_take (by kernel_rfl) (i := 25) (oi := _) (v := ?_) rfl rfl (by kernel_rfl) (by kernel_rfl) (by kernel_rfl) (fun _ _ _ h => h) (Or.inl ⟨by rfl, ?_⟩) hHeld ?_
                          rotate_left
                          · intro w' hSw; try dsimp only at hSw
                            go_simp
                            try with_reducible rfl
                          try simp only [puts, gets]
                          refine any_take (by kernel_rfl) (i := 26) (oi := _) (v := ?_) rfl rfl (by kernel_rfl) (by kernel_rfl) (by kernel_rfl) (fun _ _ _ h => h) (Or.inl ⟨by rfl, ?_⟩) hHeld ?_
                          rotate_left
                          · intro w' hSw; try dsimp only at hSw
                            go_simp
                            try with_reducible rfl
                          try simp only [puts, gets]
                          refine any_take (by kernel_rfl) (i := 27) (oi := _) (v := ?_) rfl rfl (by kernel_rfl) (by kernel_rfl) (by kernel_rfl) (fun _ _ _ h => h) (Or.inl ⟨by rfl, ?_⟩) hHeld ?_
                          rotate_left
                          · intro w' hSw; try dsimp only at hSw
                            go_simp
                            try with_reducible rfl
                          try simp only [puts, gets]
                          refine any_take (by kernel_rfl) (i := 28) (oi := _) (v := ?_) rfl rfl (by kernel_rfl) (by kernel_rfl) (by kernel_rfl) (fun _ _ _ h => h) (Or.inl ⟨by rfl, ?_⟩) hHeld ?_
                          rotate_left
                          · intro w' hSw; try dsimp only at hSw
                            go_simp
                            try with_reducible rfl
                          try simp only [puts, gets]
                          refine any_take (by kernel_rfl) (i := 29) (oi := _) (v := ?_) rfl rfl (by kernel_rfl) (by kernel_rfl) (by kernel_rfl) (fun _ _ _ h => h) (Or.inl ⟨by rfl, ?_⟩) hHeld ?_
                          rotate_left
                          · intro w' hSw; try dsimp only at hSw
                            go_simp
                            try with_reducible rfl
                          try simp only [puts, gets]
                          refine any_take (by kernel_rfl) (i := 30) (oi := _) (v := ?_) rfl rfl (by kernel_rfl) (by kernel_rfl) (by kernel_rfl) (fun _ _ _ h => h) (Or.inl ⟨by rfl, ?_⟩) hHeld ?_
                          rotate_left
                          · intro w' hSw; try dsimp only at hSw
                            go_simp
                            try with_reducible rfl
                          try simp only [puts, gets]
                          refine any_late (i := 31) (by kernel_rfl) rfl rfl (fun K hK => ?_)
                          go_simp
                          refine hK.out _ _ ?_
                          clear hK K
                          try simp only [puts, gets]
                          refine any_done (by kernel_rfl) ?_ _
                          refine NoPanic.normal ?_
                          go_wp2
                          go_roundw
                          case rel =>
                            exact ⟨b + 1, by omega, by go_num, (show MRows (wo.setCell ⟨rs a, b, none⟩ (.bool x3)) rs L.elems.length _ from (hM.set HIN.out hla x3).congr fun i j _ _ => by rw [← part2_set, HX.out]; rfl), (heap_setCell_other wo ⟨rs a, b, none⟩ G _ (hGr a hla)).trans hG, below_drew' (bR.setCell (p := ⟨rs a, b, none⟩) (HLO.out a hla) _)⟩
                          case measure => simp [intOf]; omega
                      · skip
                        refine wp_region_noPanic ?_
                        refine wp_region_late (fun w' => w'.cell? ⟨G, a, none⟩ = some (.slice (some ⟨rs a, 0, none⟩) L.elems.length L.elems.length) ∧ w'.cell? ⟨G, k, none⟩ = some (.slice (some ⟨rs k, 0, none⟩) L.elems.length L.elems.length) ∧ w'.cell? ⟨rs a, b, none⟩ = some (.bool true) ∧ w'.cell? ⟨rs a, k, none⟩ = some (.bool x2) ∧ w'.cell? ⟨rs k, b, none⟩ = some (.bool x3)) 31 (by kernel_rfl) (⟨hcA, hcK, hc1, hc2, hc3⟩) (fun hHeld => ?_)
                        refine any_take (by kernel_rfl) (i := 0) (oi := _) (v := ?_) rfl rfl (by kernel_rfl) (by kernel_rfl) (by kernel_rfl) (fun _ _ _ h => h) (Or.inl ⟨by rfl, ?_⟩) hHeld ?_
                        rotate_left
                        · intro w' hSw; try dsimp only at hSw
                          go_simp
                          try with_reducible rfl
                        try simp only [puts, gets]
                        refine any_take (by kernel_rfl) (i := 1) (oi := _) (v := ?_) rfl rfl (by kernel_rfl) (by kernel_rfl) (by kernel_rfl) (fun _ _ _ h => h) (Or.inl ⟨by rfl, ?_⟩) hHeld ?_
                        rotate_left
                        · intro w' hSw; try dsimp only at hSw
                          go_simp
                          try with_reducible rfl
                        try simp only [puts, gets]
                        refine any_take (by kernel_rfl) (i := 2) (oi := _) (v := ?_) rfl rfl (by kernel_rfl) (by kernel_rfl) (by kernel_rfl) (fun _ _ _ h => h) (Or.inl ⟨by rfl, ?_⟩) hHeld ?_
                        rotate_left
                        · intro w' hSw; try dsimp only at hSw
                          go_simp
                          try with_reducible rfl
                        try simp only [puts, gets]
                        refine any_take (by kernel_rfl) (i := 3) (oi := _) (v := ?_) rfl rfl (by kernel_rfl) (by kernel_rfl) (by kernel_rfl) (fun _ _ _ h => h) (Or.inl ⟨by rfl, ?_⟩) hHeld ?_
                        rotate_left
                        · intro w' hSw; try dsimp only at hSw
                          go_simp
                          try with_reducible rfl
                        try simp only [puts, gets]
                        refine any_take (by kernel_rfl) (i := 4) (oi := _) (v := ?_) rfl rfl (by kernel_rfl) (by kernel_rfl) (by kernel_rfl) (fun _ _ _ h => h) (Or.inl ⟨by rfl, ?_⟩) hHeld ?_
                        rotate_left
                        · intro w' hSw; try dsimp only at hSw
                          go_simp
                          try with_reducible rfl
                        try simp only [puts, gets]
                        refine any_take (by kernel_rfl) (i := 5) (oi := _) (v := ?_) rfl rfl (by kernel_rfl) (by kernel_rfl) (by kernel_rfl) (fun _ _ _ h => h) (Or.inl ⟨by rfl, ?_⟩) hHeld ?_
                        rotate_left
                        · intro w' hSw; try dsimp only at hSw
                          go_simp
                          try with_reducible rfl
                        try simp only [puts, gets]
                        refine any_take (by kernel_rfl) (i := 6) (oi := _) (v := ?_) rfl rfl (by kernel_rfl) (by kernel_rfl) (by kernel_rfl) (fun _ _ _ h => h) (Or.inl ⟨by rfl, ?_⟩) hHeld ?_
                        rotate_left
                        · intro w' hSw; try dsimp only at hSw
                          go_simp
                          try with_reducible rfl
                        try simp only [puts, gets]
                        refine any_take (by kernel_rfl) (i := 7) (oi := _) (v := ?_) rfl rfl (by kernel_rfl) (by kernel_rfl) (by kernel_rfl) (fun _ _ _ h => h) (Or.inl ⟨by rfl, ?_⟩) hHeld ?_
                        rotate_left
                        · intro w' hSw; try dsimp only at hSw
                          go_simp
                          try with_reducible rfl
                        try simp only [puts, gets]
                        refine any_take (by kernel_rfl) (i := 8) (oi := _) (v := ?_) rfl rfl (by kernel_rfl) (by kernel_rfl) (by kernel_rfl) (fun _ _ _ h => h) (Or.inl ⟨by rfl, ?_⟩) hHeld ?_
                        rotate_left
                        · intro w' hSw; try dsimp only at hSw
                          go_simp
                          try with_reducible rfl
                        try simp only [puts, gets]
                        refine any_take (by kernel_rfl) (i := 9) (oi := _) (v := ?_) rfl rfl (by kernel_rfl) (by kernel_rfl) (by kernel_rfl) (fun _ _ _ h => h) (Or.inl ⟨by rfl, ?_⟩) hHeld ?_
                        rotate_left
                        · intro w' hSw; try dsimp only at hSw
                          go_simp
                          try with_reducible rfl
                        try simp only [puts, gets]
                        refine any_take (by kernel_rfl) (i := 10) (oi := _) (v := ?_) rfl rfl (by kernel_rfl) (by kernel_rfl) (by kernel_rfl) (fun _ _ _ h => h) (Or.inl ⟨by rfl, ?_⟩) hHeld ?_
                        rotate_left
                        · intro w' hSw; try dsimp only at hSw
                          go_simp
                          try with_reducible rfl
                        try simp only [puts, gets]
                        refine any_take (by kernel_rfl) (i := 11) (oi := _) (v := ?_) rfl rfl (by kernel_rfl) (by kernel_rfl) (by kernel_rfl) (fun _ _ _ h => h) (Or.inl ⟨by rfl, ?_⟩) hHeld ?_
                        rotate_left
                        · intro w' hSw; try dsimp only at hSw
                          go_simp
                          try with_reducible rfl
                        try simp only [puts, gets]
                        refine any_take (by kernel_rfl) (i := 12) (oi := _) (v := ?_) rfl rfl (by kernel_rfl) (by kernel_rfl) (by kernel_rfl) (fun _ _ _ h => h) (Or.inl ⟨by rfl, ?_⟩) hHeld ?_
                        rotate_left
                        · intro w' hSw; try dsimp only at hSw
                          go_simp
                          try with_reducible rfl
                        try simp only [puts, gets]
                        refine any_take (by kernel_rfl) (i := 13) (oi := _) (v := undef) rfl rfl (by kernel_rfl) (by kernel_rfl) (by kernel_rfl) (fun _ _ _ h => h) (Or.inr ⟨by rfl, rfl⟩) hHeld ?_
                        try simp only [puts, gets]
                        refine any_take (by kernel_rfl) (i := 14) (oi := _) (v := undef) rfl rfl (by kernel_rfl) (by kernel_rfl) (by kernel_rfl) (fun _ _ _ h => h) (Or.inr ⟨by rfl, rfl⟩) hHeld ?_
                        try simp only [puts, gets]
                        refine any_take (by kernel_rfl) (i := 15) (oi := _) (v := undef) rfl rfl (by kernel_rfl) (by kernel_rfl) (by kernel_rfl) (fun _ _ _ h => h) (Or.inr ⟨by rfl, rfl⟩) hHeld ?_
                        try simp only [puts, gets]
                        refine any_take (by kernel_rfl) (i := 16) (oi := _) (v := undef) rfl rfl (by kernel_rfl) (by kernel_rfl) (by kernel_rfl) (fun _ _ _ h => h) (Or.inr ⟨by rfl, rfl⟩) hHeld ?_
                        try simp only [puts, gets]
                        refine any_take (by kernel_rfl) (i := 17) (oi := _) (v := undef) rfl rfl (by kernel_rfl) (by kernel_rfl) (by kernel_rfl) (fun _ _ _ h => h) (Or.inr ⟨by rfl, rfl⟩) hHeld ?_
                        try simp only [puts, gets]
                        refine any_take (by kernel_rfl) (i := 18) (oi := _) (v := undef) rfl rfl (by kernel_rfl) (by kernel_rfl) (by kernel_rfl) (fun _ _ _ h => h) (Or.inr ⟨by rfl, rfl⟩) hHeld ?_
                        try simp only [puts, gets]
                        refine any_take (by kernel_rfl) (i := 19) (oi := _) (v := undef) rfl rfl (by kernel_rfl) (by kernel_rfl) (by kernel_rfl) (fun _ _ _ h => h) (Or.inr ⟨by rfl, rfl⟩) hHeld ?_
                        try simp only [puts, gets]
                        refine any_take (by kernel_rfl) (i := 20) (oi := _) (v := undef) rfl rfl (by kernel_rfl) (by kernel_rfl) (by kernel_rfl) (fun _ _ _ h => h) (Or.inr ⟨by rfl, rfl⟩) hHeld ?_
                        try simp only [puts, gets]
                        refine any_take (by kernel_rfl) (i := 21) (oi := _) (v := undef) rfl rfl (by kernel_rfl) (by kernel_rfl) (by kernel_rfl) (fun _ _ _ h => h) (Or.inr ⟨by rfl, rfl⟩) hHeld ?_
                        try simp only [puts, gets]
                        refine any_take (by kernel_rfl) (i := 22) (oi := _) (v := undef) rfl rfl (by kernel_rfl) (by kernel_rfl) (by kernel_rfl) (fun _ _ _ h => h) (Or.inr ⟨by rfl, rfl⟩) hHeld ?_
                        try simp only [puts, gets]
                        refine any_take (by kernel_rfl) (i := 23) (oi := _) (v := undef) rfl rfl (by kernel_rfl) (by kernel_rfl) (by kernel_rfl) (fun _ _ _ h => h) (Or.inr ⟨by rfl, rfl⟩) hHeld ?_
                        try simp only [puts, gets]
                        refine any_take (by kernel_rfl) (i := 24) (oi := _) (v := undef) rfl rfl (by kernel_rfl) (by kernel_rfl) (by kernel_rfl) (fun _ _ _ h => h) (Or.inr ⟨by rfl, rfl⟩) hHeld ?_
                        try simp only [puts, gets]
                        refine any_take (by kernel_rfl) (i := 25) (oi := _) (v := undef) rfl rfl (by kernel_rfl) (by kernel_rfl) (by kernel_rfl) (fun _ _ _ h => h) (Or.inr ⟨by rfl, rfl⟩) hHeld ?_
                        try simp only [puts, gets]
                        refine any_take (by kernel_rfl) (i := 26) (oi := _) (v := undef) rfl rfl (by kernel_rfl) (by kernel_rfl) (by kernel_rfl) (fun _ _ _ h => h) (Or.inr ⟨by rfl, rfl⟩) hHeld ?_
                        try simp only [puts, gets]
                        refine any_take (by kernel_rfl) (i := 27) (oi := _) (v := undef) rfl rfl (by kernel_rfl) (by kernel_rfl) (by kernel_rfl) (fun _ _ _ h => h) (Or.inr ⟨by rfl, rfl⟩) hHeld ?_
                        try simp only [puts, gets]
                        refine any_take (by kernel_rfl) (i := 28) (oi := _) (v := undef) rfl rfl (by kernel_rfl) (by kernel_rfl) (by kernel_rfl) (fun _ _ _ h => h) (Or.inr ⟨by rfl, rfl⟩) hHeld ?_
                        try simp only [puts, gets]
                        refine any_take (by kernel_rfl) (i := 29) (oi := _) (v := ?_) rfl rfl (by kernel_rfl) (by kernel_rfl) (by kernel_rfl) (fun _ _ _ h => h) (Or.inl ⟨by rfl, ?_⟩) hHeld ?_
                        rotate_left
                        · intro w' hSw; try dsimp only at hSw
                          go_simp
                          try with_reducible rfl
                        try simp only [puts, gets]
                        refine any_take (by kernel_rfl) (i := 30) (oi := _) (v := ?_) rfl rfl (by kernel_rfl) (by kernel_rfl) (by kernel_rfl) (fun _ _ _ h => h) (Or.inl ⟨by rfl, ?_⟩) hHeld ?_
                        rotate_left
                        · intro w' hSw; try dsimp only at hSw
                          go_simp
                          try with_reducible rfl
                        try simp only [puts, gets]
                        refine any_late (i := 31) (by kernel_rfl) rfl rfl (fun K hK => ?_)
                        go_simp
                        refine hK.out _ _ ?_
                        clear hK K
                        try simp only [puts, gets]
                        refine any_done (by kernel_rfl) ?_ _
                        refine NoPanic.normal ?_
                        go_wp2
                        go_roundw
                        case rel =>
                          exact ⟨b + 1, by omega, by go_num, (show MRows (wo.setCell ⟨rs a, b, none⟩ (.bool true)) rs L.elems.length _ from (hM.set HIN.out hla true).congr fun i j _ _ => by rw [← part2_set, HX.out]; rfl), (heap_setCell_other wo ⟨rs a, b, none⟩ G _ (hGr a hla)).trans hG, below_drew' (bR.setCell (p := ⟨rs a, b, none⟩) (HLO.out a hla) _)⟩
                        case measure => simp [intOf]; omega
                    · have e : b = L.elems.length := by omega
                      subst e
                      have hdb : decide (L.elems.length < L.elems.length) = false := decide_eq_false hlb
                      go_wp2
                      go_roundw
                      case rel => exact ⟨a + 1, by omega, by go_num, hM.congr fun i j _ hj => part2_row_end i j hj, hG, bR⟩
                      case measure => simp [intOf]; omega
                · have e : a = L.elems.length := by omega
                  subst e
                  have hda : decide (L.elems.length < L.elems.length) = false := decide_eq_false hla
                  go_wp2
                  go_roundw
                  case rel => exact ⟨k + 1, by omega, by go_num, hM.congr fun i j hi _ => by rw [part2_end i j hi, ← HO.out]; rfl, hG, bR⟩
                  case measure => simp [intOf]; omega
            · have e : k = L.elems.length := by omega
              subst e
              have hdk : decide (L.elems.length < L.elems.length) = false := decide_eq_false hlk
              go_wp2
              go_ret
              exact ⟨G, _, rfl, ⟨rs, hT.of_block hG, by rw [← HST.out] at hM; exact hM⟩, below_trans b0 bR⟩
end Go.Proofs.YtkjlflmcojmfgaaDoor
