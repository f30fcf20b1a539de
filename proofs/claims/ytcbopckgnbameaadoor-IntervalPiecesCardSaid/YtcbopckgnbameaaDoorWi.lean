/- The walk of the law's own helper spans. -/
import Derived.Test.YtcbopckgnbameaaDoorWh
import Derived.Deep.RegionLaw
import Derived.Deep.AppendLies
namespace Go.Proofs.YtcbopckgnbameaaDoor
open Go.RowKit
def pairs : List Int → List Sp
  | a :: b :: r => (a, b) :: pairs r
  | _ => []
theorem pairs_length : ∀ n (xs : List Int), xs.length ≤ n → (pairs xs).length = xs.length / 2
  | _, [], _ => rfl
  | _, [_], _ => by simp [pairs]
  | 0, _ :: _ :: _, h => by simp at h
  | n + 1, a :: b :: r, h => by
    have := pairs_length n r (by simp at h; omega)
    simp only [pairs, List.length_cons, this]; omega
theorem pairs_get : ∀ j (xs : List Int), 2 * j + 1 < xs.length → (pairs xs).getD j (0, 0) = (xs.getD (2 * j) 0, xs.getD (2 * j + 1) 0)
  | _, [], h => by simp at h
  | _, [_], h => by simp at h
  | 0, a :: b :: r, _ => rfl
  | j + 1, a :: b :: r, h => by
    have := pairs_get j r (by simp at h; omega)
    simp only [pairs]
    rw [show 2 * (j + 1) = 2 * j + 1 + 1 from by omega, show 2 * j + 1 + 1 + 1 = (2 * j + 1) + 2 from by omega]
    simpa using this
set_option maxHeartbeats 2000000 in
theorem spans_any (b : Nat) (xs : List Int) (c : Nat) (hlen : xs.length ≤ 1000) (w : World) (hc : ∀ i, i < xs.length → w.cell? ⟨b, i, none⟩ = some (.int .i64 (xs.getD i 0))) :
    Calls Tryd.prog 29 #[.slice (some ⟨b, 0, none⟩) xs.length c] w fun e w' => ∃ v, e = .returned v ∧ w'.ownsRow w.heap.size 32 2 v (pairs xs).length (flat (pairs xs)) ∧ Below w.heap.size w w' := by
  obtain ⟨i0, hi, hz0', hz1', hz2⟩ := info_parts Tryd.info32
  have hpl := pairs_length _ xs (Nat.le_refl _)
  have HPL := Lib.hid hpl
  clear hpl
  go_enter Tryd.func29, Tryd.ntmps29
  go_wp2
  go_loopw [3, 4] (fun v i wr => ∃ (j k : Nat), j ≤ xs.length ∧ j = 2 * k ∧ i = .int .i64 j ∧ wr.ownsRow w.heap.size 32 2 v k (flat ((pairs xs).take k)) ∧ Below w.heap.size w wr) (fun _ i _ => xs.length + 2 - (intOf i).toNat)
  case atStart => exact ⟨0, 0, by omega, rfl, rfl, World.ownsRow_nil _ _ _ _, Below.refl _ _⟩
  case round =>
    obtain ⟨j, k, hk, hj, rfl, hown, hb⟩ := hrel
    by_cases hlt : j + 1 < xs.length
    · have c1 : wr.cell? ⟨b, j, none⟩ = some (.int .i64 (xs.getD j 0)) := cell_keep hb (hc _ (by omega))
      have c2 : wr.cell? ⟨b, j + 1, none⟩ = some (.int .i64 (xs.getD (j + 1) 0)) := cell_keep hb (hc _ (by omega))
      have HG := pairs_get k xs (by omega)
      rw [← hj] at HG
      have HG := Lib.hid HG
      have hk32 : k ≤ 1000 := by omega
      have HJ := Lib.hid hj
      clear hj
      generalize xs.getD j 0 = p at *
      generalize xs.getD (j + 1) 0 = q at *
      go_wp2
      have g1 : (j : Int) < xs.length := by omega
      have g2 : IntKind.i64.wrap ((j : Int) + 1) = (j : Int) + 1 := by rw [IntKind.wrap_i64]; omega
      have g3 : (0 : Int) ≤ (j : Int) + 1 := by omega
      have g4 : ((j : Int) + 1).toNat = j + 1 := by omega
      have g5 : (j : Int) + 1 < xs.length := by omega
      go_region_law (refine step_append_lies _ rfl (.tmp 12) (.tmp 23) 22 rfl w.heap.size 32 i0 (.agg #[.int .i64 0, .int .i64 0]) 2 16 Tryd.underlying22 hi hz0' hz1' hz2 rfl (by decide) _ _ _ rfl (hown.drew.alloc _) ⟨wr.heap.size, 0, none⟩ 1 1 [.int .i64 p, .int .i64 q] rfl rfl (cells_two_new _ _ _ _) (by simp [Value.oneCell']) (by decide) (by unfold maxLen; omega) (by omega) (by have := hb.size; simp; omega) _ rfl ?_; intro g cap w1 hown' hgrow hg1 hg2)
      all_goals
        have hb2 : Below w.heap.size w w1 := (hb.drew.alloc (by have := hb.size; simp; omega) _).grown hgrow (by have := hb.size; simp; omega) (own_from hown)
        clear g1 g2 g3 g4 g5
        go_wp2
        go_roundw
        case rel =>
          refine ⟨j + 2, k + 1, by omega, by have := HJ.out; omega, by go_num, ?_, hb2⟩
          rw [List.take_succ_eq_append_getElem (by rw [HPL.out]; have := HJ.out; omega), flat_append]
          have hge : (pairs xs)[k]'(by rw [HPL.out]; have := HJ.out; omega) = (p, q) := by
            have := HG.out
            rw [List.getD_eq_getElem?_getD, List.getElem?_eq_getElem (by rw [HPL.out]; have := HJ.out; omega)] at this
            simpa using this
          rw [hge]
          simpa [flat] using hown'
        case measure => simp [intOf]; omega
    · have hk2 : xs.length / 2 ≤ k := by omega
      have HJ := Lib.hid hj
      clear hj
      go_wp2
      go_ret
      refine ⟨_, rfl, ?_, hb⟩
      have hlen2 : ((pairs xs).take k).length = k := by
        have := hown.1
        rw [flat_length] at this; omega
      have he : (pairs xs).take k = pairs xs := List.take_of_length_le (by rw [HPL.out]; exact hk2)
      rw [he] at hlen2
      rw [he] at hown
      rw [hlen2]; exact hown
end Go.Proofs.YtcbopckgnbameaaDoor
