/- The walks of less and permutation. -/
import Derived.Test.YtnibgmmoebmnlaaPlain
import Derived.Test.YtnibgmmoebmnlaaWp
namespace Go.Proofs.Ytnibgmmoebmnlaa
open Go.RowKit
theorem lessP_at {a b : List Int} {k : Nat} (ha : k < a.length) (hb : k < b.length) : lessP (a.drop k) (b.drop k) = if a[k] = b[k] then lessP (a.drop (k + 1)) (b.drop (k + 1)) else decide (a[k] < b[k]) := by
  rw [List.drop_eq_getElem_cons ha, List.drop_eq_getElem_cons hb]; rfl
theorem lessP_end {a b : List Int} {k : Nat} (h : a.length ≤ k ∨ b.length ≤ k) : lessP (a.drop k) (b.drop k) = false := by
  rcases h with h | h
  · rw [List.drop_eq_nil_of_le h]; rfl
  · rw [List.drop_eq_nil_of_le h]; cases a.drop k <;> rfl
theorem less_any (va vb : Value) (a b : List Int) (w : World) (ha : IsInts w va a) (hb : IsInts w vb b) :
    Calls Try.prog 25 #[va, vb] w fun e w' => e = .returned (.bool (lessP a b)) ∧ Below w.heap.size w w' := by
  obtain ⟨pa, ca, rfl, ha, hma⟩ := ha
  obtain ⟨pb, cb, rfl, hb, hmb⟩ := hb
  obtain ⟨R, hR⟩ : ∃ R, lessP a b = R := ⟨_, rfl⟩
  have HR := Lib.hid (show R = lessP (a.drop 0) (b.drop 0) by rw [← hR]; simp)
  rw [hR]
  clear hR
  go_enter Try.func25, Try.ntmps25
  go_wp2
  go_loopw [5] (fun i wr => ∃ k : Nat, k ≤ a.length ∧ k ≤ b.length ∧ i = .int .i64 k ∧ Hid (R = lessP (a.drop k) (b.drop k)) ∧ Below w.heap.size w wr) (fun i _ => a.length - (intOf i).toNat)
  case atStart => exact ⟨0, Nat.zero_le _, Nat.zero_le _, rfl, HR, Below.refl _ _⟩
  case round =>
    obtain ⟨k, hk, hk', rfl, HL, hbb⟩ := hrel
    by_cases hlt : k < a.length
    · by_cases hlt' : k < b.length
      · obtain ⟨b1, o1, rfl, c1⟩ := (ha.keep (keeps_below hbb)).one (List.getElem?_eq_getElem hlt) rfl
        obtain ⟨b2, o2, rfl, c2⟩ := (hb.keep (keeps_below hbb)).one (List.getElem?_eq_getElem hlt') rfl
        have HA := Lib.hid (HL.out.trans (lessP_at hlt hlt'))
        have c1' : ∀ n, (wr.drewN n).cell? ⟨b1, o1 + k, none⟩ = some (.int .i64 a[k]) := fun _ => c1
        have c2' : ∀ n, (wr.drewN n).cell? ⟨b2, o2 + k, none⟩ = some (.int .i64 b[k]) := fun _ => c2
        generalize a[k] = x at *
        generalize b[k] = y at *
        by_cases he : x = y
        · subst he
          have HN := Lib.hid (show R = lessP (a.drop (k + 1)) (b.drop (k + 1)) by rw [HA.out]; simp)
          go_wp2
          go_quiet (fail)
          go_wp2
          go_roundw
          case rel => exact ⟨k + 1, by omega, by omega, by go_num, HN, below_drewN hbb _⟩
          case measure => simp [intOf]; omega
        · have HD := Lib.hid (show R = decide (x < y) by rw [HA.out]; simp [he])
          have hq := ne_beq he
          go_wp2
          go_quiet (fail)
          go_wp2
          go_quiet (fail)
          go_wp2
          go_ret
          exact ⟨ret_bool HD.out.symm, below_drewN (below_drewN hbb _) _⟩
      · have HD := Lib.hid (HL.out.trans (lessP_end (.inr (by omega))))
        go_wp2
        go_ret
        exact ⟨ret_bool HD.out.symm, hbb⟩
    · have HD := Lib.hid (HL.out.trans (lessP_end (.inl (by omega))))
      go_wp2
      go_ret
      exact ⟨ret_bool HD.out.symm, hbb⟩
/-! ### permutation -/
def encB (n : Nat) : List Value := [.int .u8 n]
def IsPicks (w : World) (v : Value) (l : List Nat) : Prop := IsRows 1 encB w v l
theorem IsPicks.keep {w w' : World} {v : Value} {l : List Nat} (h : IsPicks w v l) (hk : Keeps w w') : IsPicks w' v l := IsRows.keep h hk
/-- The row g holds the numbers L. -/
def NatRow (w : World) (base g n : Nat) (L : List Nat) : Prop := L.length = n ∧ w.ownsRow base 3 1 (.slice (some ⟨g, 0, none⟩) n n) n (L.map fun x : Nat => Value.int .i64 x)
theorem NatRow.cell {w : World} {base g n : Nat} {L : List Nat} (h : NatRow w base g n L) {j : Nat} (hj : j < L.length) : w.cell? ⟨g, j, none⟩ = some (.int .i64 L[j]) := by
  have := h.2.cellAt j (by have := h.1; omega)
  rw [this]; simp [hj]
theorem NatRow.frozen {w : World} {base g n : Nat} {L : List Nat} (h : NatRow w base g n L) (j : Nat) : w.frozen? ⟨g, j, none⟩ = false := h.2.frozenAt j
theorem NatRow.set {w : World} {base g n : Nat} {L : List Nat} (h : NatRow w base g n L) (j x : Nat) : NatRow (w.setCell ⟨g, j, none⟩ (.int .i64 x)) base g n (L.set j x) := by
  refine ⟨by simpa using h.1, ?_⟩
  have := (h.2.stored j (.int .i64 x)).1
  rw [List.map_set]
  exact this
theorem NatRow.is {w : World} {base g n : Nat} {L : List Nat} (h : NatRow w base g n L) (hm : n ≤ 9223372036854775807) : IsInts w (.slice (some ⟨g, 0, none⟩) n n) (zs L) := by
  have hl := h.1
  subst hl
  refine ⟨_, _, by rw [zs_length], .inr ⟨_, _, rfl, fun i x hi j u hj => ?_⟩, by rw [zs_length]; exact hm⟩
  simp only [zs, List.getElem?_map] at hi
  obtain ⟨y, hy, rfl⟩ := Option.map_eq_some_iff.1 hi
  obtain ⟨hil, rfl⟩ := List.getElem?_eq_some_iff.1 hy
  match j, hj with
  | 0, hj =>
    have : u = .int .i64 (L[i] : Nat) := by simpa [encI] using hj.symm
    rw [this]
    have := h.cell hil
    simpa using this
theorem first_rows (n i : Nat) (hi : i < n) : (List.range i ++ List.replicate (n - i) 0).set i i = List.range (i + 1) ++ List.replicate (n - (i + 1)) 0 := by
  rw [List.set_append_right _ _ (by simp)]
  simp only [List.length_range, Nat.sub_self]
  obtain ⟨k, hk⟩ : ∃ k, n - i = k + 1 := ⟨n - i - 1, by omega⟩
  rw [hk, List.replicate_succ, List.set_cons_zero, List.range_succ, show n - (i + 1) = k from by omega]
  simp
theorem swap_perm {L : List Nat} {i k : Nat} (hi : i < L.length) (hk : k < L.length) : ((L.set i L[k]).set k L[i]).Perm L := List.set_set_perm hi hk
set_option maxHeartbeats 2000000 in
set_option maxRecDepth 100000 in
theorem permutation_any (n : Nat) (v : Value) (picks : List Nat) (w : World) (h : IsPicks w v picks) (hb : ∀ x ∈ picks, x < 256) (hn : n ≤ 1000) :
    Calls Try.prog 24 #[.int .i64 n, v] w fun e w' => ∃ (g : Nat) (L : List Nat), e = .returned (.slice (some ⟨g, 0, none⟩) n n) ∧ L.Perm (List.range n) ∧ NatRow w' w.heap.size g n L ∧ Below w.heap.size w w' := by
  obtain ⟨i1, hi', hz0', hz1', hz2'⟩ := info_parts info3'
  obtain ⟨pa, pc, rfl, h, hm⟩ := h
  go_enter Try.func24, Try.ntmps24
  go_wp2_with (at_make; refine wpList_make_full _ rfl _ _ 29 rfl w.heap.size 3 i1 (.int .i64 0) 1 Try.underlying29 hi' hz0' hz1' .i64 .i64 (n : Int) (n : Int) n rfl rfl rfl rfl (by rw [hz2']; omega) (by unfold maxLen; omega) (Nat.le_refl _) ?_; intro w2 hmade hgm)
  have hrow : NatRow w2 w.heap.size w.heap.size n (List.range 0 ++ List.replicate (n - 0) 0) := by
    refine ⟨by simp, ?_⟩
    have e : (Value.int .i64 0).cells = #[.int .i64 0] := rfl
    rw [e, toList_madeCells_one] at hmade
    simpa using hmade
  have b2 : Below w.heap.size w w2 := (Below.refl _ _).grown hgm (Nat.le_refl _) (by simp)
  clear hmade hgm
  go_wp2
  go_loopw [6] (fun iv wr => ∃ k : Nat, k ≤ n ∧ iv = .int .i64 k ∧ NatRow wr w.heap.size w.heap.size n (List.range k ++ List.replicate (n - k) 0) ∧ Below w.heap.size w wr) (fun iv _ => n - (intOf iv).toNat)
  case atStart => exact ⟨0, by simp, rfl, hrow, b2⟩
  case round =>
    obtain ⟨k, hk, rfl, hr, hbl⟩ := hrel
    by_cases hlt : k < n
    · have cd := hr.cell (j := k) (by rw [hr.1]; exact hlt)
      have fd := hr.frozen k
      have hs := hr.set k k
      rw [first_rows n k hlt] at hs
      generalize (List.range k ++ List.replicate (n - k) 0)[k]'(by rw [hr.1]; exact hlt) = y at cd
      go_wp2
      go_roundw
      case rel => exact ⟨k + 1, by omega, by go_num, hs, hbl.grown (grown_setCell wr ⟨w.heap.size, k, none⟩ _) hbl.size (by simp)⟩
      case measure => simp [intOf]; omega
    · have he : k = n := by omega
      subst he
      have hr' : NatRow wr w.heap.size w.heap.size k (List.range k) := by simpa using hr
      clear hr hrow
      go_wp2
      go_loopw [7] (fun iv wr2 => ∃ j : Nat, j ≤ k ∧ iv = .int .i64 j ∧ ∃ L : List Nat, Hid (L.Perm (List.range k)) ∧ NatRow wr2 w.heap.size w.heap.size k L ∧ Below w.heap.size w wr2) (fun iv _ => k - (intOf iv).toNat)
      case atStart => exact ⟨0, by simp, rfl, _, Lib.hid (List.Perm.refl _), hr', hbl⟩
      case round =>
        obtain ⟨j, hj, rfl, L, HP, hL, hb2⟩ := hrel
        by_cases hjk : j < k
        · by_cases hjp : j < picks.length
          · obtain ⟨b', off, rfl, c0⟩ := (h.keep (keeps_below hb2)).one (List.getElem?_eq_getElem hjp) rfl
            have hx := hb picks[j] (List.getElem_mem hjp)
            generalize picks[j] = x at *
            have hmod : ((x : Int).tmod (k : Int)) = ((x % k : Nat) : Int) := rfl
            have hxk : x % k < k := Nat.mod_lt _ (by omega)
            obtain ⟨y, hy⟩ : ∃ y, x % k = y := ⟨_, rfl⟩
            rw [hy] at hmod hxk
            have hlen := hL.1
            have ci := hL.cell (j := j) (by omega)
            have ck := hL.cell (j := y) (by omega)
            have fi := hL.frozen j
            have fk := hL.frozen y
            have HS := Lib.hid (swap_perm (L := L) (i := j) (k := y) (by omega) (by omega))
            have hset := (hL.set j (L[y]'(by omega))).set y (L[j]'(by omega))
            have hmid := hL.set j (L[y]'(by omega))
            have ck2 := hmid.cell (j := y) (by rw [hmid.1]; omega)
            have fk2 := hmid.frozen y
            generalize (L.set j (L[y]'(by omega)))[y]'(by rw [hmid.1]; omega) = z at ck2
            clear hmid
            generalize L[y]'(by omega) = ly at *
            generalize L[j]'(by omega) = lj at *
            have hk0 : ((k : Int) == 0) = false := by simp; omega
            go_wp2
            have hjk1 : (j : Int) < k := by omega
            have hyk1 : (y : Int) < k := by omega
            go_region
            all_goals
              go_wp2
              go_roundw
              case rel => exact ⟨j + 1, by omega, by go_num, _, Lib.hid (HS.out.trans HP.out), ⟨hset.1, hset.2.drew⟩, ((hb2.grown (grown_setCell wr ⟨w.heap.size, j, none⟩ _) hb2.size (by simp)).grown (grown_setCell _ ⟨w.heap.size, y, none⟩ _) (by simp; exact hb2.size) (by simp)).drew⟩
              case measure => simp [intOf]; omega
          · go_wp2
            go_ret
            exact ⟨_, _, rfl, HP.out, hL, hb2⟩
        · go_wp2
          go_ret
          exact ⟨_, _, rfl, HP.out, hL, hb2⟩
end Go.Proofs.Ytnibgmmoebmnlaa
