/- The walks over orders: least, closed. -/
import Derived.Test.YtkjlflmcojmfgaaDoorWc
import Derived.Test.YtkjlflmcojmfgaaDoorTail
namespace Go.Proofs.YtkjlflmcojmfgaaDoor
open Go.RowKit
/-- Eight bytes that hold the rows of a relation. -/
structure IsOrd (l : List Int) (o : Rl2) : Prop where
  len : l.length = 8
  row : ∀ a x, l[a]? = some x → Bits x (o a)
def ordV (l : List Int) : Value := .agg (l.map fun x => Value.int .u8 x).toArray
theorem eight {l : List Int} (h : l.length = 8) : ∃ x0 x1 x2 x3 x4 x5 x6 x7, l = [x0, x1, x2, x3, x4, x5, x6, x7] := by
  match l, h with
  | [x0, x1, x2, x3, x4, x5, x6, x7], _ => exact ⟨_, _, _, _, _, _, _, _, rfl⟩
/-- A block that holds the row l. -/
def OrdAt (w : World) (β : Nat) (l : List Int) : Prop := w.heap[β]? = some (.cells (l.map fun x => Value.int .u8 x).toArray 48 (0, 0))
theorem OrdAt.cell {w : World} {β : Nat} {l : List Int} (h : OrdAt w β l) {a : Nat} {x : Int} (hx : l[a]? = some x) : w.cell? ⟨β, a, none⟩ = some (.int .u8 x) :=
  cell_at h (by simp [hx])
theorem OrdAt.keep {w w' : World} {β : Nat} {l : List Int} (h : OrdAt w β l) (hb : Below w.heap.size w w') : OrdAt w' β l := block_keep h hb
theorem OrdAt.free {w : World} {β a : Nat} {l : List Int} (h : OrdAt w β l) : w.frozen? ⟨β, a, none⟩ = false := free_at h
def lp (n : Nat) (o : Rl2) (S : Nat → Bool) (a : Nat) : Bool := S a && (List.range n).all fun b => !S b || o a b
theorem find_range {p : Nat → Bool} : ∀ (n k : Nat), k < n → p k = true → (∀ j, j < k → p j = false) → (List.range n).find? p = some k
  | 0, k, h, _, _ => by omega
  | n + 1, k, h, hp, hn => by
    rw [List.range_succ, List.find?_append]
    rcases Nat.lt_or_ge k n with hk | hk
    · rw [find_range n k hk hp hn]; rfl
    · obtain rfl : k = n := by omega
      have : (List.range k).find? p = none := List.find?_eq_none.2 fun x hx => by simp [hn x (List.mem_range.1 hx)]
      rw [this]; simp [hp]
theorem leastOf_hit {n : Nat} {o : Rl2} {S : Nat → Bool} {k : Nat} (h : k < n) (hp : lp n o S k = true) (hn : ∀ j, j < k → lp n o S j = false) : leastOf n o S = k := by
  have := find_range (p := lp n o S) n k h hp hn
  unfold leastOf
  unfold lp at this
  rw [this]
theorem leastOf_miss {n : Nat} {o : Rl2} {S : Nat → Bool} (hn : ∀ j, j < n → lp n o S j = false) : leastOf n o S = -1 := by
  have : (List.range n).find? (lp n o S) = none := List.find?_eq_none.2 fun x hx => by simp [hn x (List.mem_range.1 hx)]
  unfold leastOf
  unfold lp at this
  rw [this]
theorem lp_bits {n : Nat} {o : Rl2} {S : Nat → Bool} {s x : Int} {k : Nat} (hs : Bits s S) (hx : Bits x (o k)) (hS : ∀ b, b < 8 → S b = true → b < n) (hn : n ≤ 8) : lp n o S k = (S k && decide (bits .andNot .u8 s x = 0)) := by
  unfold lp
  congr 1
  rw [Bool.eq_iff_iff, decide_eq_true_eq, (hs.andNot hx).isZero]
  simp only [List.all_eq_true, List.mem_range, Bool.or_eq_true, Bool.not_eq_true', Bool.and_eq_false_iff, Bool.not_eq_false']
  constructor
  · intro h b hb
    rcases Nat.lt_or_ge b n with hb' | hb'
    · exact h b hb'
    · left
      cases hSb : S b
      · rfl
      · have := hS b hb hSb; omega
  · intro h b hb; exact h b (by omega)
set_option maxHeartbeats 1000000 in
theorem least_any (l : List Int) (o : Rl2) (s : Int) (S : Nat → Bool) (n : Nat) (w : World) (ho : IsOrd l o) (hs : Bits s S) (hS : ∀ b, b < 8 → S b = true → b < n) (hn : n ≤ 8) : Calls Tryd.prog 38 #[ordV l, .int .u8 s, .int .i64 n] w fun e w' => e = .returned (.int .i64 (leastOf n o S)) ∧ Below w.heap.size w w' := by
  obtain ⟨x0, x1, x2, x3, x4, x5, x6, x7, rfl⟩ := eight ho.len
  have hB : OrdAt (w.alloc (.cells #[.int .u8 x0, .int .u8 x1, .int .u8 x2, .int .u8 x3, .int .u8 x4, .int .u8 x5, .int .u8 x6, .int .u8 x7] 48)) w.heap.size [x0, x1, x2, x3, x4, x5, x6, x7] := heap_alloc_new w _
  have bB := below_new w (.cells #[.int .u8 x0, .int .u8 x1, .int .u8 x2, .int .u8 x3, .int .u8 x4, .int .u8 x5, .int .u8 x6, .int .u8 x7] 48)
  obtain ⟨wB, hwB⟩ : ∃ x : World, x = w.alloc (.cells #[.int .u8 x0, .int .u8 x1, .int .u8 x2, .int .u8 x3, .int .u8 x4, .int .u8 x5, .int .u8 x6, .int .u8 x7] 48) := ⟨_, rfl⟩
  rw [← hwB] at hB bB
  have hs0 := hs.1
  have hs1 := hs.2.1
  have HS := Lib.hid hS
  clear hS
  unfold ordV
  go_enter Tryd.func38, Tryd.ntmps38
  go_wp2
  rw [← hwB]
  clear hwB
  generalize [x0, x1, x2, x3, x4, x5, x6, x7] = l at *
  go_loop [9, 7] (fun i _ => ∃ k : Nat, k ≤ n ∧ i = .int .i64 k ∧ Hid (∀ j, j < k → lp n o S j = false)) (fun i _ => n - (intOf i).toNat)
  case atStart => exact ⟨0, Nat.zero_le _, rfl, Lib.hid fun j hj => by omega⟩
  case round =>
    obtain ⟨k, hk, rfl, hnl⟩ := hrel
    by_cases hlt : k < n
    · have hk8 : k < l.length := by rw [ho.len]; omega
      have hx := ho.row k _ (List.getElem?_eq_getElem hk8)
      have hc := hB.cell (List.getElem?_eq_getElem hk8)
      have HP := Lib.hid (lp_bits (k := k) hs hx HS.out hn)
      generalize l[k] = x at *
      have hx0 := hx.1
      have hx1 := hx.2.1
      have hki : (k : Int) < 8 := by omega
      have ht := hs.test (b := k) (by omega)
      cases hSk : S k
      · rw [hSk, if_neg (by simp)] at ht
        have HN := Lib.hid (show ∀ j, j < k + 1 → lp n o S j = false from fun j hj => by
          rcases Nat.lt_or_ge j k with h | h
          · exact hnl.out j h
          · obtain rfl : j = k := by omega
            rw [HP.out, hSk]; rfl)
        clear hSk
        go_wp2
        go_round
        case rel => exact ⟨k + 1, by omega, by go_num, HN⟩
        case measure => simp [intOf]; omega
      · rw [hSk, if_pos rfl] at ht
        by_cases hz : bits .andNot .u8 s x = 0
        · have HF := Lib.hid (leastOf_hit hlt (by rw [HP.out, hSk, decide_eq_true hz]; rfl) hnl.out)
          clear hSk
          go_wp2
          go_ret
          exact ⟨ret_int HF.out.symm, bB⟩
        · have HN := Lib.hid (show ∀ j, j < k + 1 → lp n o S j = false from fun j hj => by
            rcases Nat.lt_or_ge j k with h | h
            · exact hnl.out j h
            · obtain rfl : j = k := by omega
              rw [HP.out, decide_eq_false hz]; simp)
          have hq := ne_beq hz
          clear hSk
          go_wp2
          go_round
          case rel => exact ⟨k + 1, by omega, by go_num, HN⟩
          case measure => simp [intOf]; omega
    · have e : k = n := by omega
      subst e
      have HF := Lib.hid (leastOf_miss hnl.out)
      go_wp2
      go_ret
      exact ⟨ret_int HF.out.symm, bB⟩
/-- One row of a pass. -/
theorem IsOrd.set {l : List Int} {o : Rl2} {a : Nat} {x : Int} {S : Nat → Bool} (h : IsOrd l o) (hx : Bits x S) : IsOrd (l.set a x) (fun i b => if i = a then S b else o i b) := by
  refine ⟨by rw [List.length_set]; exact h.len, fun i y hy => ?_⟩
  rw [List.getElem?_set] at hy
  by_cases e : a = i
  · subst e
    rw [if_pos rfl] at hy
    split at hy
    · obtain rfl := Option.some.inj hy
      exact hx.congr fun b _ => by rw [if_pos rfl]
    · cases hy
  · rw [if_neg e] at hy
    exact (h.row i y hy).congr fun b _ => by rw [if_neg (fun e' => e e'.symm)]
theorem IsOrd.congr {l : List Int} {o p : Rl2} (h : IsOrd l o) (e : ∀ a b, a < 8 → b < 8 → o a b = p a b) : IsOrd l p :=
  ⟨h.len, fun a x hx => (h.row a x hx).congr fun b hb => e a b (by have := (List.getElem?_eq_some_iff.1 hx).1; rw [h.len] at this; exact this) hb⟩
/-- What stands after the first a rows of the k-th pass. -/
def part (k a : Nat) (o : Rl2) : Rl2 := fun i b => if i < a then pass k o i b else o i b
theorem part_self {k a b : Nat} {o : Rl2} : part k a o k b = o k b := by
  unfold part pass
  split
  · cases o k b <;> simp
  · rfl
theorem part_skip {k a : Nat} {o : Rl2} (h : o a k = false) {i b : Nat} : part k a o i b = part k (a + 1) o i b := by
  unfold part
  by_cases e : i = a
  · subst e
    rw [if_neg (by omega), if_pos (by omega)]
    unfold pass; rw [h]; simp
  · by_cases h2 : i < a
    · rw [if_pos h2, if_pos (by omega)]
    · rw [if_neg h2, if_neg (by omega)]
theorem part_take {k a : Nat} {o : Rl2} (h : o a k = true) {i b : Nat} : (if i = a then (o a b || o k b) else part k a o i b) = part k (a + 1) o i b := by
  unfold part
  by_cases e : i = a
  · subst e
    rw [if_pos rfl, if_pos (by omega)]
    unfold pass; rw [h]; simp
  · rw [if_neg e]
    by_cases h2 : i < a
    · rw [if_pos h2, if_pos (by omega)]
    · rw [if_neg h2, if_neg (by omega)]
theorem warsh_lt {n : Nat} {o : Rl2} (hr : ∀ a b, o a b = true → a < n ∧ b < n) {k a b : Nat} (h : warsh k o a b = true) : a < n ∧ b < n :=
  warsh_least (p := fun a b => a < n ∧ b < n) hr (fun _ _ _ h k => ⟨h.1, k.2⟩) k a b h
theorem part_all {n k : Nat} {o : Rl2} (hr : ∀ a b, o a b = true → a < n ∧ b < n) {i b : Nat} : part k n (warsh k o) i b = warsh (k + 1) o i b := by
  unfold part
  split
  · rfl
  · rename_i hi
    have h1 : warsh k o i b = false := by
      cases h : warsh k o i b
      · rfl
      · have := warsh_lt hr h; omega
    have h2 : warsh k o i k = false := by
      cases h : warsh k o i k
      · rfl
      · have := warsh_lt hr h; omega
    show _ = pass k (warsh k o) i b
    unfold pass
    rw [h1, h2]; rfl
theorem OrdAt.keep_set {w : World} {β : Nat} {l : List Int} (h : OrdAt w β l) {p : Addr} {v : Value} (hp : p.block ≠ β) : OrdAt (w.setCell p v) β l := by
  unfold OrdAt at h ⊢
  rw [heap_setCell_other _ _ _ _ (fun e => hp e.symm)]; exact h
theorem OrdAt.set {w : World} {β : Nat} {l : List Int} (h : OrdAt w β l) (a : Nat) (x : Int) : OrdAt (w.setCell ⟨β, a, none⟩ (.int .u8 x)) β (l.set a x) := by
  unfold OrdAt at h ⊢
  rw [heap_setCell_same w β a _ 48 _ h]
  simp
set_option maxHeartbeats 4000000 in
set_option maxRecDepth 100000 in
theorem closed_any (l : List Int) (o : Rl2) (n : Nat) (w : World) (ho : IsOrd l o) (hr : ∀ a b, o a b = true → a < n ∧ b < n) (hn : n ≤ 8) : Calls Tryd.prog 42 #[ordV l, .int .i64 n] w fun e w' => ∃ l', e = .returned (ordV l') ∧ IsOrd l' (warsh n o) ∧ Below w.heap.size w w' := by
  obtain ⟨x0, x1, x2, x3, x4, x5, x6, x7, rfl⟩ := eight ho.len
  obtain ⟨C, hC⟩ : ∃ C, C = Obj.cells #[.int .u8 x0, .int .u8 x1, .int .u8 x2, .int .u8 x3, .int .u8 x4, .int .u8 x5, .int .u8 x6, .int .u8 x7] 48 := ⟨_, rfl⟩
  obtain ⟨Z, hZ⟩ : ∃ Z, Z = Obj.cells #[.int .u8 0, .int .u8 0, .int .u8 0, .int .u8 0, .int .u8 0, .int .u8 0, .int .u8 0, .int .u8 0] 48 := ⟨_, rfl⟩
  have hB : OrdAt ((w.alloc C).alloc Z) w.heap.size [x0, x1, x2, x3, x4, x5, x6, x7] := by
    subst hC; exact block_keep (heap_alloc_new w _) (below_new _ _)
  have hZ0 : OrdAt ((w.alloc C).alloc Z) (w.heap.size + 1) [0, 0, 0, 0, 0, 0, 0, 0] := by
    subst hZ
    have := heap_alloc_new (w.alloc C) (.cells #[.int .u8 0, .int .u8 0, .int .u8 0, .int .u8 0, .int .u8 0, .int .u8 0, .int .u8 0, .int .u8 0] 48)
    unfold OrdAt
    simpa using this
  have bB := below_trans (below_new w C) (below_new (w.alloc C) Z)
  obtain ⟨wB, hwB⟩ : ∃ x : World, x = (w.alloc C).alloc Z := ⟨_, rfl⟩
  rw [← hwB] at hB bB hZ0
  have HO := Lib.hid ho
  have HR := Lib.hid hr
  clear ho hr
  unfold ordV
  go_enter Tryd.func42, Tryd.ntmps42
  go_wp2
  rw [← hC, ← hZ, ← hwB]
  clear hwB hC hZ
  generalize [x0, x1, x2, x3, x4, x5, x6, x7] = l at *
  go_loopw [8, 5] (fun i _ wr => ∃ (k : Nat) (l' : List Int), k ≤ n ∧ i = .int .i64 k ∧ OrdAt wr w.heap.size l' ∧ Hid (IsOrd l' (warsh k o)) ∧ OrdAt wr (w.heap.size + 1) [0, 0, 0, 0, 0, 0, 0, 0] ∧ Below w.heap.size w wr) (fun i _ _ => n - (intOf i).toNat)
  case atStart => exact ⟨0, l, Nat.zero_le _, rfl, hB, HO, hZ0, bB⟩
  case round =>
    obtain ⟨k, l1, hk, rfl, hA, hIO, hZ1, b1⟩ := hrel
    obtain ⟨wo, rfl⟩ : ∃ wo : World, wo = wr := ⟨_, rfl⟩
    by_cases hlt : k < n
    · go_wp2
      go_loopw [12, 6] (fun i _ wr => ∃ (a : Nat) (l' : List Int), a ≤ n ∧ i = .int .i64 a ∧ OrdAt wr w.heap.size l' ∧ Hid (IsOrd l' (part k a (warsh k o))) ∧ OrdAt wr (w.heap.size + 1) [0, 0, 0, 0, 0, 0, 0, 0] ∧ Below w.heap.size w wr) (fun i _ _ => n - (intOf i).toNat)
      case atStart => exact ⟨0, l1, Nat.zero_le _, rfl, hA, Lib.hid (hIO.out.congr fun a b _ _ => by simp [part]), hZ1, b1⟩
      case round =>
        obtain ⟨a, l2, ha, rfl, hA2, hIO2, hZ2, b2⟩ := hrel
        obtain ⟨wp, rfl⟩ : ∃ wo : World, wo = wr := ⟨_, rfl⟩
        clear hA hIO hZ1 b1 hB HO hZ0 bB
        by_cases hlt2 : a < n
        · have hlen := hIO2.out.len
          have hak : a < l2.length := by omega
          have hkk : k < l2.length := by omega
          have hx := hIO2.out.row a _ (List.getElem?_eq_getElem hak)
          have hy := hIO2.out.row k _ (List.getElem?_eq_getElem hkk)
          have hcx := hA2.cell (List.getElem?_eq_getElem hak)
          have hcy := hA2.cell (List.getElem?_eq_getElem hkk)
          generalize l2[a] = x at *
          generalize l2[k] = y at *
          have hx := hx.congr (T := warsh k o a) fun b _ => by simp [part]
          have hy := hy.congr (T := warsh k o k) fun b _ => part_self
          have hx0 := hx.1
          have hx1 := hx.2.1
          have hki : (k : Int) < 8 := by omega
          have hai : (a : Int) < 8 := by omega
          have ht := hx.test (b := k) (by omega)
          have hfr := hA2.free (a := a)
          clear hlen
          cases hS : warsh k o a k
          · rw [hS, if_neg (by simp)] at ht
            have HN := Lib.hid (hIO2.out.congr (p := part k (a + 1) (warsh k o)) fun i b _ _ => part_skip hS)
            clear hS
            go_wp2
            go_roundw
            case rel => exact ⟨a + 1, l2, by omega, by go_num, hA2, HN, hZ2, b2⟩
            case measure => simp [intOf]; omega
          · rw [hS, if_pos rfl] at ht
            have HN := Lib.hid ((hIO2.out.set (a := a) (hx.or hy)).congr (p := part k (a + 1) (warsh k o)) fun i b _ _ => part_take hS)
            clear hS
            go_wp2
            refine wp_region_noPanic ?_
            refine wp_region_late (fun w' => w'.cell? ⟨w.heap.size, a, none⟩ = some (.int .u8 x) ∧ w'.cell? ⟨w.heap.size, k, none⟩ = some (.int .u8 y)) 8 (by kernel_rfl) (⟨hcx, hcy⟩) (fun hHeld => ?_)
            refine any_take (by kernel_rfl) (i := 0) (oi := _) (v := ?_) rfl rfl (by kernel_rfl) (by kernel_rfl) (by kernel_rfl) (fun _ _ _ h => h) (Or.inl ⟨by rfl, ?_⟩) hHeld ?_
            rotate_left
            · intro w' hSw; try dsimp only at hSw
              go_simp
              try with_reducible rfl
            try simp only [puts, gets]
            refine any_take (by kernel_rfl) (i := 1) (oi := _) (v := ?_) rfl rfl (by kernel_rfl) (by kernel_rfl) (by kernel_rfl) (fun _ _ _ h => h) (Or.inl ⟨by rfl, ?_⟩) hHeld ?_
            rotate_left
            · intro w' hSw; try dsimp only at hSw
              go_simp
              try with_reducible rfl
            try simp only [puts, gets]
            refine any_take (by kernel_rfl) (i := 2) (oi := _) (v := ?_) rfl rfl (by kernel_rfl) (by kernel_rfl) (by kernel_rfl) (fun _ _ _ h => h) (Or.inl ⟨by rfl, ?_⟩) hHeld ?_
            rotate_left
            · intro w' hSw; try dsimp only at hSw
              go_simp
              try with_reducible rfl
            try simp only [puts, gets]
            refine any_take (by kernel_rfl) (i := 3) (oi := _) (v := ?_) rfl rfl (by kernel_rfl) (by kernel_rfl) (by kernel_rfl) (fun _ _ _ h => h) (Or.inl ⟨by rfl, ?_⟩) hHeld ?_
            rotate_left
            · intro w' hSw; try dsimp only at hSw
              go_simp
              try with_reducible rfl
            try simp only [puts, gets]
            refine any_take (by kernel_rfl) (i := 4) (oi := _) (v := ?_) rfl rfl (by kernel_rfl) (by kernel_rfl) (by kernel_rfl) (fun _ _ _ h => h) (Or.inl ⟨by rfl, ?_⟩) hHeld ?_
            rotate_left
            · intro w' hSw; try dsimp only at hSw
              go_simp
              try with_reducible rfl
            try simp only [puts, gets]
            refine any_take (by kernel_rfl) (i := 5) (oi := _) (v := ?_) rfl rfl (by kernel_rfl) (by kernel_rfl) (by kernel_rfl) (fun _ _ _ h => h) (Or.inl ⟨by rfl, ?_⟩) hHeld ?_
            rotate_left
            · intro w' hSw; try dsimp only at hSw
              go_simp
              try with_reducible rfl
            try simp only [puts, gets]
            refine any_take (by kernel_rfl) (i := 6) (oi := _) (v := ?_) rfl rfl (by kernel_rfl) (by kernel_rfl) (by kernel_rfl) (fun _ _ _ h => h) (Or.inl ⟨by rfl, ?_⟩) hHeld ?_
            rotate_left
            · intro w' hSw; try dsimp only at hSw
              go_simp
              try with_reducible rfl
            try simp only [puts, gets]
            refine any_take (by kernel_rfl) (i := 7) (oi := _) (v := ?_) rfl rfl (by kernel_rfl) (by kernel_rfl) (by kernel_rfl) (fun _ _ _ h => h) (Or.inl ⟨by rfl, ?_⟩) hHeld ?_
            rotate_left
            · intro w' hSw; try dsimp only at hSw
              go_simp
              try with_reducible rfl
            try simp only [puts, gets]
            refine any_late (i := 8) (by kernel_rfl) rfl rfl (fun K hK => ?_)
            go_simp
            refine hK.out _ _ ?_
            clear hK K
            try simp only [puts, gets]
            refine any_done (by kernel_rfl) ?_ _
            refine NoPanic.normal ?_
            go_wp2
            go_roundw
            case rel => exact ⟨a + 1, l2.set a (bits .or .u8 x y), by omega, by go_num, hA2.set a (bits .or .u8 x y), HN, hZ2.keep_set (p := ⟨w.heap.size, a, none⟩) (by simp), below_drew' (b2.setCell (p := ⟨w.heap.size, a, none⟩) (by simp) (.int .u8 (bits .or .u8 x y)))⟩
            case measure => simp [intOf]; omega
        · have e : a = n := by omega
          subst e
          have HN := Lib.hid (hIO2.out.congr (p := warsh (k + 1) o) fun i b _ _ => part_all HR.out)
          go_wp2
          go_roundw
          case rel => exact ⟨k + 1, l2, by omega, by go_num, hA2, HN, hZ2, b2⟩
          case measure => simp [intOf]; omega
    · have e : k = n := by omega
      subst e
      obtain ⟨y0, y1, y2, y3, y4, y5, y6, y7, rfl⟩ := eight hIO.out.len
      have r0 := hA.cell (a := 0) rfl
      have r1 := hA.cell (a := 1) rfl
      have r2 := hA.cell (a := 2) rfl
      have r3 := hA.cell (a := 3) rfl
      have r4 := hA.cell (a := 4) rfl
      have r5 := hA.cell (a := 5) rfl
      have r6 := hA.cell (a := 6) rfl
      have r7 := hA.cell (a := 7) rfl
      have z0 := hZ1.cell (a := 0) rfl
      have z1 := hZ1.cell (a := 1) rfl
      have z2 := hZ1.cell (a := 2) rfl
      have z3 := hZ1.cell (a := 3) rfl
      have z4 := hZ1.cell (a := 4) rfl
      have z5 := hZ1.cell (a := 5) rfl
      have z6 := hZ1.cell (a := 6) rfl
      have z7 := hZ1.cell (a := 7) rfl
      have hf := fun a => hZ1.free (a := a)
      clear hB hZ0 bB
      go_wp2
      refine bodyPost_ret (v := .agg #[.int .u8 y0, .int .u8 y1, .int .u8 y2, .int .u8 y3, .int .u8 y4, .int .u8 y5, .int .u8 y6, .int .u8 y7]) (by simp [results, Tryd.results42, go_sem, z0, z1, z2, z3, z4, z5, z6, z7]) rfl ?_
      exact ⟨[y0, y1, y2, y3, y4, y5, y6, y7], rfl, hIO.out, ((((((((b1.setCell (p := ⟨w.heap.size + 1, 0, none⟩) (by simp) _).setCell (p := ⟨w.heap.size + 1, 1, none⟩) (by simp) _).setCell (p := ⟨w.heap.size + 1, 2, none⟩) (by simp) _).setCell (p := ⟨w.heap.size + 1, 3, none⟩) (by simp) _).setCell (p := ⟨w.heap.size + 1, 4, none⟩) (by simp) _).setCell (p := ⟨w.heap.size + 1, 5, none⟩) (by simp) _).setCell (p := ⟨w.heap.size + 1, 6, none⟩) (by simp) _).setCell (p := ⟨w.heap.size + 1, 7, none⟩) (by simp) _)⟩
end Go.Proofs.YtkjlflmcojmfgaaDoor
