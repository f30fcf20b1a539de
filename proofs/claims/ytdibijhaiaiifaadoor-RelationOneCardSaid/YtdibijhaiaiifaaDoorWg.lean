/- The walk of the reference's List. -/
import Derived.Test.YtdibijhaiaiifaaDoorWf
namespace Go.Proofs.YtdibijhaiaiifaaDoor
open Go.RowKit
theorem canon_split (S : Nat → Bool) (out : List Sp) (n m : Nat) (fr : Int) (h : canon S = out ++ runs S n m fr) : out.length ≤ 32 := by
  have := canon_le S
  rw [h, List.length_append] at this; omega
theorem own_from {w : World} {base : Nat} {e : TypeId} {size n : Nat} {v : Value} {xs : List Value} (h : w.ownsRow base e size v n xs) : ∀ k, v.ownBlock = some k → base ≤ k := by
  intro k hk
  rcases h.2 with ⟨rfl, _⟩ | ⟨g, cap, cur, rfl, hg, _⟩
  · simp [Value.ownBlock] at hk
  · have : g = k := by simpa [Value.ownBlock] using hk
    omega
set_option maxRecDepth 100000 in
set_option maxHeartbeats 4000000 in
theorem List_any (b : Nat) (f : Nat → Bool) (w : World) (h : BoolBlk w b f) :
    Calls Tryd.prog 123 #[.slice (some ⟨b, 0, none⟩) 64 64] w fun e w' => ∃ v, e = .returned v ∧ IsSpans w' v (canon f) ∧ Below w.heap.size w w' := by
  obtain ⟨i0, hi, hz0', hz1', hz2⟩ := info_parts Tryd.info86
  go_enter Tryd.func123, Tryd.ntmps123
  go_wp2
  go_loopw [3, 4, 5] (fun v fr m wr => ∃ (k : Nat) (out : List Sp) (z : Int), k ≤ 65 ∧ m = .int .i64 k ∧ fr = .int .i64 z ∧ z < k ∧ wr.ownsRow w.heap.size 86 2 v out.length (flat out) ∧ canon f = out ++ runs f (65 - k) k z ∧ Below w.heap.size w wr) (fun _ _ m _ => 65 - (intOf m).toNat)
  case atStart => exact ⟨0, [], -1, by omega, rfl, rfl, by omega, World.ownsRow_nil _ _ _ _, rfl, Below.refl _ _⟩
  case round =>
    obtain ⟨k, out, z, hk, rfl, rfl, hz, hown, hc, hb⟩ := hrel
    have hol := canon_split _ _ _ _ _ hc
    have HC := Lib.hid hc
    clear hc
    by_cases h65 : k = 65
    · have h3 : 64 < k := by omega
      have HK := Lib.hid h65
      clear h65
      go_wp2
      go_ret
      refine ⟨_, rfl, ?_, hb⟩
      rw [HC.out, HK.out]
      simpa [runs] using IsSpans.of_owns hown (by omega)
    · have hk65 : k < 65 := by omega
      have e65 : 65 - k = (64 - k) + 1 := by omega
      have E65 := Lib.hid e65
      clear e65 h65
      by_cases hin : k < 64 ∧ f k = true
      · obtain ⟨h64, hf⟩ := hin
        have hcell : wr.cell? ⟨b, k, none⟩ = some (.bool true) := by rw [← hf]; exact cell_keep hb (h.cell h64)
        have HF := Lib.hid hf
        clear hf
        by_cases hz0 : z < 0
        · go_wp2
          go_roundw
          case rel => exact ⟨k + 1, out, k, by omega, by go_num, rfl, by omega, hown, by rw [HC.out, E65.out, runs_in_new f _ _ _ h64 HF.out hz0, show 65 - (k + 1) = 64 - k from by omega], hb⟩
          case measure => simp [intOf]; omega
        · have hz1 : 0 ≤ z := by omega
          go_wp2
          go_roundw
          case rel => exact ⟨k + 1, out, z, by omega, by go_num, rfl, by omega, hown, by rw [HC.out, E65.out, runs_in_on f _ _ _ h64 HF.out hz1, show 65 - (k + 1) = 64 - k from by omega], hb⟩
          case measure => simp [intOf]; omega
      · have hno : (decide (k < 64) && f k) = false := by
          by_cases h64 : k < 64
          · simp [h64]; cases hh : f k
            · rfl
            · exact absurd ⟨h64, hh⟩ hin
          · simp [h64]
        have HN := Lib.hid hno
        clear hno
        by_cases h64 : k < 64
        · have hcell : wr.cell? ⟨b, k, none⟩ = some (.bool false) := by
            have : f k = false := by have := HN.out; simpa [h64] using this
            rw [← this]; exact cell_keep hb (h.cell h64)
          clear hin
          by_cases hz0 : z < 0
          · go_wp2
            go_roundw
            case rel => exact ⟨k + 1, out, z, by omega, by go_num, rfl, by omega, hown, by rw [HC.out, E65.out, runs_out f _ _ _ HN.out hz0, show 65 - (k + 1) = 64 - k from by omega], hb⟩
            case measure => simp [intOf]; omega
          · have hz1 : 0 ≤ z := by omega
            go_wp2_with (at_builtin; refine wpList_append_own _ rfl _ _ 26 rfl w.heap.size 86 i0 (.agg #[.int .i64 0, .int .i64 0]) 2 16 Tryd.underlying26 hi hz0' hz1' hz2 rfl (by decide) _ _ _ rfl (hown.alloc _) ⟨wr.heap.size, 0, none⟩ 1 1 [.int .i64 z, .int .i64 k] rfl rfl (cells_two_new _ _ _ _) (by simp [Value.oneCell']) (by unfold maxLen; omega) (by omega) (by have := hb.size; simp; omega) ?_; intro v' w1 hown' hgrow _)
            have hb2 : Below w.heap.size w w1 := (hb.alloc hb.size _).grown hgrow (by have := hb.size; simp; omega) (own_from hown)
            go_wp2
            go_roundw
            case rel => exact ⟨k + 1, out ++ [(z, (k : Int))], -1, by omega, by go_num, rfl, by omega, by simpa [flat_append, flat] using hown', by rw [HC.out, E65.out, runs_end f _ _ _ HN.out hz1, List.append_assoc, show 65 - (k + 1) = 64 - k from by omega]; rfl, hb2⟩
            case measure => simp [intOf]; omega
        · have h64e : k = 64 := by omega
          subst h64e
          clear hin h64
          by_cases hz0 : z < 0
          · go_wp2
            go_roundw
            case rel => exact ⟨65, out, z, by omega, rfl, rfl, by omega, hown, by rw [HC.out, E65.out, runs_out f _ _ _ HN.out hz0], hb⟩
            case measure => simp [intOf]
          · have hz1 : 0 ≤ z := by omega
            go_wp2_with (at_builtin; refine wpList_append_own _ rfl _ _ 26 rfl w.heap.size 86 i0 (.agg #[.int .i64 0, .int .i64 0]) 2 16 Tryd.underlying26 hi hz0' hz1' hz2 rfl (by decide) _ _ _ rfl (hown.alloc _) ⟨wr.heap.size, 0, none⟩ 1 1 [.int .i64 z, .int .i64 64] rfl rfl (cells_two_new _ _ _ _) (by simp [Value.oneCell']) (by unfold maxLen; omega) (by omega) (by have := hb.size; simp; omega) ?_; intro v' w1 hown' hgrow _)
            have hb2 : Below w.heap.size w w1 := (hb.alloc hb.size _).grown hgrow (by have := hb.size; simp; omega) (own_from hown)
            go_wp2
            go_roundw
            case rel => exact ⟨65, out ++ [(z, (64 : Int))], -1, by omega, by go_num, rfl, by omega, by simpa [flat_append, flat] using hown', by rw [HC.out, E65.out, runs_end f _ _ _ HN.out hz1, List.append_assoc]; rfl, hb2⟩
            case measure => simp [intOf]
end Go.Proofs.YtdibijhaiaiifaaDoor
