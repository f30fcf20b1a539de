/- The walk of the law IntervalGaps. -/
import Derived.Test.YtcbopckgnbameaaDoorWn
namespace Go.Proofs.YtcbopckgnbameaaDoor
open Go.RowKit
/-- Whether the moment ahead of k is in the set. -/
def prev (S : Nat → Bool) (k : Nat) : Bool := match k with
  | 0 => false
  | k + 1 => S k
theorem starts_step (S : Nat → Bool) (n k : Nat) (h : n + 1 + k = 64) : starts S (64 - k) k (prev S k) = (if (S k && !prev S k) = true then 1 else 0) + starts S (64 - (k + 1)) (k + 1) (prev S (k + 1)) := by
  have e : 64 - k = n + 1 := by omega
  have e2 : 64 - (k + 1) = n := by omega
  rw [e, e2]
  cases hs : S k <;> cases hp : prev S k <;> simp [starts, prev, hs]
theorem inSet_prev (a : List Sp) (k : Nat) (h : k < 64) : inSet a ((k : Int) - 1) = prev (setOf a) k := by
  cases k with
  | zero => simp [inSet, prev]
  | succ k =>
    have : ((k + 1 : Nat) : Int) - 1 = (k : Int) := by omega
    rw [this, inSet_nat a k (by omega)]; rfl
theorem gap_facts (a : List Sp) (s : Sp) (h : s ∈ canon (setOf a)) : inSet a (s.1 - 1) = false ∧ inSet a s.2 = false ∧ inSet a s.1 = true ∧ inSet a (s.2 - 1) = true ∧ 0 ≤ s.1 ∧ s.1 < s.2 ∧ s.2 ≤ 64 := by
  obtain ⟨h1, h2, h3, h4, h5, h6, h7⟩ := canon_gaps (setOf a) s h
  refine ⟨?_, ?_, ?_, ?_, h1, h2, h3⟩
  · rw [inSet_of]
    rcases h6 with h | h
    · simp [h]
    · have : (s.1 - 1).toNat = s.1.toNat - 1 := by omega
      rw [this, h]; simp
  · rw [inSet_of]
    rcases h7 with h | h
    · simp [h]
    · rw [h]; simp
  · rw [inSet_of, h4]; simp; omega
  · have : (s.2 - 1).toNat = s.2.toNat - 1 := by omega
    rw [inSet_of, this, h5]; simp; omega
theorem getD_mem (l : List Sp) (i : Nat) (h : i < l.length) : l.getD i (0, 0) ∈ l := by
  have e : l.getD i (0, 0) = l[i] := by simp [h]
  rw [e]; exact List.getElem_mem h
set_option maxRecDepth 100000 in
set_option maxHeartbeats 4000000 in
theorem law9_any (v_a : Value) (l_a : List Sp)  (w : World) (hT : Tab w) (h_a : IsSpans w v_a l_a) :
    Calls Tryd.prog 9 #[v_a] w fun e w' => e = .returned (.bool true) ∧ Below w.heap.size w w' := by
  by_cases f_a : l_a.length ≤ 60
  case neg =>
    go_enter Tryd.func9, Tryd.ntmps9
    go_wp2_with fail
    refine (head_any _ hT).mono ?_
    rintro e w1 ⟨rfl, b1⟩
    go_wp2_with fail
    refine (few_is _ _ _ false (h_a.keep b1) (by simp; omega)).mono ?_
    rintro e w2 ⟨rfl, b2⟩
    go_wp2
    go_ret
    exact ⟨rfl, (below_trans b1 b2)⟩
  go_enter Tryd.func9, Tryd.ntmps9
  go_wp2_with fail
  refine (head_any _ hT).mono ?_
  rintro e w1 ⟨rfl, b1⟩
  go_wp2_with fail
  refine (few_is _ _ _ true (h_a.keep b1) (by simp; omega)).mono ?_
  rintro e w2 ⟨rfl, b2⟩
  go_wp2_with fail
  refine (Of_any _ _ _ (hT.keep (below_trans b1 b2)) (h_a.keep (below_trans b1 b2))).mono ?_
  rintro e w3 ⟨v_t, rfl, h_t, b3⟩
  obtain ⟨at', ct, rfl, hst, hmt⟩ := h_t
  have hlen := canon_length (setOf l_a)
  have hle := canon_le (setOf l_a)
  have HL := Lib.hid hlen
  clear hlen
  go_wp2_with fail
  go_loopw [5, 6] (fun t i wr => ∃ (k c : Nat), k ≤ 64 ∧ i = .int .i64 k ∧ t = .int .i64 c ∧ c ≤ k ∧ (canon (setOf l_a)).length = c + starts (setOf l_a) (64 - k) k (prev (setOf l_a) k) ∧ Below w3.heap.size w3 wr) (fun _ i _ => 64 - (intOf i).toNat)
  case atStart => exact ⟨0, 0, by omega, rfl, rfl, by omega, by rw [HL.out]; simp [prev], Below.refl _ _⟩
  case round =>
    obtain ⟨k, c, hk, rfl, rfl, hck, hc, b4⟩ := hrel
    obtain ⟨w4, rfl⟩ : ∃ x : World, x = wr := ⟨_, rfl⟩
    have HC := Lib.hid hc
    clear hc
    by_cases hlt : k < 64
    case pos =>
      have HS := Lib.hid (starts_step (setOf l_a) (63 - k) k (by omega))
      obtain ⟨s, hs⟩ : ∃ s, setOf l_a k = s := ⟨_, rfl⟩
      obtain ⟨p, hp⟩ : ∃ p, prev (setOf l_a) k = p := ⟨_, rfl⟩
      have H1 := Lib.hid ((inSet_nat l_a k hlt).trans hs)
      have H2 := Lib.hid ((inSet_prev l_a k hlt).trans hp)
      rw [hs, hp] at HS
      rw [hp] at HC
      clear hs hp
      go_wp2_with fail
      refine (Has_is _ _ _ _ s (h_a.keep (below_trans (below_trans (below_trans b1 b2) b3) b4)) H1.out).mono ?_
      rintro e w5 ⟨rfl, b5⟩
      cases s
      case false =>
        go_wp2
        go_roundw
        case rel => exact ⟨k + 1, c, by omega, by go_num, rfl, by omega, by rw [HC.out, HS.out]; simp, (below_trans b4 b5)⟩
        case measure => simp [intOf]; omega
      case true =>
        go_wp2_with fail
        refine (Has_is _ _ _ _ p (h_a.keep (below_trans (below_trans (below_trans (below_trans b1 b2) b3) b4) b5)) H2.out).mono ?_
        rintro e w6 ⟨rfl, b6⟩
        cases p
        case false =>
          go_wp2
          go_roundw
          case rel => exact ⟨k + 1, c + 1, by omega, by go_num, by go_num, by omega, by rw [HC.out, HS.out]; simp; omega, (below_trans (below_trans b4 b5) b6)⟩
          case measure => simp [intOf]; omega
        case true =>
          go_wp2
          go_roundw
          case rel => exact ⟨k + 1, c, by omega, by go_num, rfl, by omega, by rw [HC.out, HS.out]; simp, (below_trans (below_trans b4 b5) b6)⟩
          case measure => simp [intOf]; omega
    case neg =>
      have HK := Lib.hid (show k = 64 from by omega)
      have hk64 : 64 ≤ k := by omega
      have hcl : (canon (setOf l_a)).length = c := by have := HC.out; rw [HK.out] at this; simpa [starts] using this
      have HCL := Lib.hid hcl
      have tc1 : ((canon (setOf l_a)).length : Int) == (c : Int) := by rw [beq_iff_eq]; omega
      have tc2 : (c : Int) ≤ 32 := by omega
      have TC1 := Lib.hid tc1
      clear hcl tc1
      go_wp2_with fail
      go_loopw [7] (fun i wr => ∃ j : Nat, j ≤ (canon (setOf l_a)).length ∧ i = .int .i64 j ∧ Below w4.heap.size w4 wr) (fun i _ => (canon (setOf l_a)).length - (intOf i).toNat)
      case atStart => exact ⟨0, by omega, rfl, Below.refl _ _⟩
      case round =>
        obtain ⟨j, hj, rfl, b5⟩ := hrel
        obtain ⟨w5, rfl⟩ : ∃ x : World, x = wr := ⟨_, rfl⟩
        by_cases hlj : j < (canon (setOf l_a)).length
        case pos =>
          obtain ⟨bb, off, rfl, hcs⟩ := (hst.keep (below_trans b4 b5)).at_ hlj
          obtain ⟨c1, c2⟩ := hcs j hlj
          clear hcs
          obtain ⟨q1, q2, q3, q4, q5, q6, q7⟩ := gap_facts l_a _ (getD_mem _ j hlj)
          generalize (canon (setOf l_a)).getD j (0, 0) = sp at *
          obtain ⟨p, q⟩ := sp
          dsimp only at c1 c2 q1 q2 q3 q4 q5 q6 q7
          have Q1 := Lib.hid q1
          have Q2 := Lib.hid q2
          have Q3 := Lib.hid q3
          have Q4 := Lib.hid q4
          clear q1 q2 q3 q4
          go_wp2_with fail
          refine (Has_is _ _ _ _ false (h_a.keep (below_trans (below_trans (below_trans (below_trans b1 b2) b3) b4) b5)) Q1.out).mono ?_
          rintro e w6 ⟨rfl, b6⟩
          have c1_1 := cell_keep b6 c1
          have c2_1 := cell_keep b6 c2
          go_wp2_with fail
          refine (Has_is _ _ _ _ false (h_a.keep (below_trans (below_trans (below_trans (below_trans (below_trans b1 b2) b3) b4) b5) b6)) Q2.out).mono ?_
          rintro e w7 ⟨rfl, b7⟩
          have c1_2 := cell_keep b7 c1_1
          have c2_2 := cell_keep b7 c2_1
          go_wp2_with fail
          refine (Has_is _ _ _ _ true (h_a.keep (below_trans (below_trans (below_trans (below_trans (below_trans (below_trans b1 b2) b3) b4) b5) b6) b7)) Q3.out).mono ?_
          rintro e w8 ⟨rfl, b8⟩
          have c1_3 := cell_keep b8 c1_2
          have c2_3 := cell_keep b8 c2_2
          go_wp2_with fail
          refine (Has_is _ _ _ _ true (h_a.keep (below_trans (below_trans (below_trans (below_trans (below_trans (below_trans (below_trans b1 b2) b3) b4) b5) b6) b7) b8)) Q4.out).mono ?_
          rintro e w9 ⟨rfl, b9⟩
          go_wp2
          go_roundw
          case rel => exact ⟨j + 1, by omega, by go_num, (below_trans (below_trans (below_trans (below_trans b5 b6) b7) b8) b9)⟩
          case measure => simp [intOf]; omega
        case neg =>
          have tc1 := TC1.out
          go_wp2
          go_ret
          exact ⟨rfl, (below_trans (below_trans (below_trans (below_trans b1 b2) b3) b4) b5)⟩
end Go.Proofs.YtcbopckgnbameaaDoor
