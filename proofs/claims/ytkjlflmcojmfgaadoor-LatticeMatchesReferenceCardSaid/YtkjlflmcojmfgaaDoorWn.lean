/- The walk of head. -/
import Derived.Test.YtkjlflmcojmfgaaDoorWm
namespace Go.Proofs.YtkjlflmcojmfgaaDoor
open Go.RowKit
set_option maxHeartbeats 16000000 in
set_option maxRecDepth 100000 in
theorem head_any (w : World) (hK : KeysAt w 0) : Calls Tryd.prog 10 #[] w fun e w' => e = .returned (.bool true) ∧ Below w.heap.size w w' := by
  obtain ⟨HF1, HF2, HF3, HF4, HF5, HF6, HF7, HF8, HF9, HF10, HF11, HF12, HF13, HF14, HF15⟩ := head_facts
  go_enter Tryd.func10, Tryd.ntmps10
  go_wp2_with fail
  refine (dia_any _).mono ?_
  rintro e w1 ⟨ea, ca, rfl, h1, bN⟩
  have b0 := bN
  clear bN
  obtain ⟨w2, hB⟩ : ∃ x : World, x = w1.alloc (.cells #[.string ⟨#[100]⟩, .slice ea 4 4, .slice ca 4 4, .int .i64 0] 25) := ⟨_, rfl⟩
  have bp : _ ∧ _ := ⟨heap_alloc_new w1 (.cells #[.string ⟨#[100]⟩, .slice ea 4 4, .slice ca 4 4, .int .i64 0] 25), below_new w1 (.cells #[.string ⟨#[100]⟩, .slice ea 4 4, .slice ca 4 4, .int .i64 0] 25)⟩
  rw [← hB] at bp
  obtain ⟨g1, bN⟩ := bp
  replace h1 := h1.keep (keeps_below bN)
  replace b0 := below_trans b0 bN
  clear bN
  go_upto_region 2 with fail
  rw [← hB]
  clear hB
  have h2 : IsLtc ((w2.alloc (.cells #[.string ⟨#[111]⟩, .string ⟨#[97]⟩, .string ⟨#[98]⟩] 9)).alloc (.cells #[.int .i64 0, .int .i64 1, .int .i64 0, .int .i64 2] 39)) (.agg #[.string ⟨#[118]⟩, .slice (some ⟨w2.heap.size, 0, none⟩) 3 3, .slice (some ⟨w2.heap.size + 1, 0, none⟩) 2 2, .int .i64 0]) openL := lat_two (nm := openL.name) (ns := openL.elems) (cs := openL.covers) (at_ := 0) _ _ rfl rfl (by decide) (by decide)
  replace h2 := h2.keep (keeps_below (below_new _ (.cells #[.string ⟨#[118]⟩, .slice (some ⟨w2.heap.size, 0, none⟩) 3 3, .slice (some ⟨w2.heap.size + 1, 0, none⟩) 2 2, .int .i64 0] 25)))
  have g2 : (((w2.alloc (.cells #[.string ⟨#[111]⟩, .string ⟨#[97]⟩, .string ⟨#[98]⟩] 9)).alloc (.cells #[.int .i64 0, .int .i64 1, .int .i64 0, .int .i64 2] 39)).alloc (.cells #[.string ⟨#[118]⟩, .slice (some ⟨w2.heap.size, 0, none⟩) 3 3, .slice (some ⟨w2.heap.size + 1, 0, none⟩) 2 2, .int .i64 0] 25)).heap[w2.heap.size + 1 + 1]? = some (.cells #[.string ⟨#[118]⟩, .slice (some ⟨w2.heap.size, 0, none⟩) 3 3, .slice (some ⟨w2.heap.size + 1, 0, none⟩) 2 2, .int .i64 0] 25 (0, 0)) := by
    have := heap_alloc_new ((w2.alloc (.cells #[.string ⟨#[111]⟩, .string ⟨#[97]⟩, .string ⟨#[98]⟩] 9)).alloc (.cells #[.int .i64 0, .int .i64 1, .int .i64 0, .int .i64 2] 39)) (.cells #[.string ⟨#[118]⟩, .slice (some ⟨w2.heap.size, 0, none⟩) 3 3, .slice (some ⟨w2.heap.size + 1, 0, none⟩) 2 2, .int .i64 0] 25)
    rwa [show ((w2.alloc (.cells #[.string ⟨#[111]⟩, .string ⟨#[97]⟩, .string ⟨#[98]⟩] 9)).alloc (.cells #[.int .i64 0, .int .i64 1, .int .i64 0, .int .i64 2] 39)).heap.size = w2.heap.size + 1 + 1 from by simp] at this
  have bN : Below w2.heap.size w2 (((w2.alloc (.cells #[.string ⟨#[111]⟩, .string ⟨#[97]⟩, .string ⟨#[98]⟩] 9)).alloc (.cells #[.int .i64 0, .int .i64 1, .int .i64 0, .int .i64 2] 39)).alloc (.cells #[.string ⟨#[118]⟩, .slice (some ⟨w2.heap.size, 0, none⟩) 3 3, .slice (some ⟨w2.heap.size + 1, 0, none⟩) 2 2, .int .i64 0] 25)) := below_alloc' (below_alloc' (below_new w2 _))
  obtain ⟨w3, hB⟩ : ∃ x : World, x = ((w2.alloc (.cells #[.string ⟨#[111]⟩, .string ⟨#[97]⟩, .string ⟨#[98]⟩] 9)).alloc (.cells #[.int .i64 0, .int .i64 1, .int .i64 0, .int .i64 2] 39)).alloc (.cells #[.string ⟨#[118]⟩, .slice (some ⟨w2.heap.size, 0, none⟩) 3 3, .slice (some ⟨w2.heap.size + 1, 0, none⟩) 2 2, .int .i64 0] 25) := ⟨_, rfl⟩
  rw [← hB] at h2 g2 bN
  replace g1 := block_keep g1 bN
  replace h1 := h1.keep (keeps_below bN)
  replace b0 := below_trans b0 bN
  clear bN
  go_upto_region 3 with fail
  rw [← hB]
  clear hB
  have h3 : IsLtc ((w3.alloc (.cells #[.string ⟨#[97]⟩, .string ⟨#[98]⟩] 9)).alloc (.cells #[.int .i64 0, .int .i64 1, .int .i64 1, .int .i64 0] 39)) (.agg #[.string ⟨#[99]⟩, .slice (some ⟨w3.heap.size, 0, none⟩) 2 2, .slice (some ⟨w3.heap.size + 1, 0, none⟩) 2 2, .int .i64 0]) loopL := lat_two (nm := loopL.name) (ns := loopL.elems) (cs := loopL.covers) (at_ := 0) _ _ rfl rfl (by decide) (by decide)
  replace h3 := h3.keep (keeps_below (below_new _ (.cells #[.string ⟨#[99]⟩, .slice (some ⟨w3.heap.size, 0, none⟩) 2 2, .slice (some ⟨w3.heap.size + 1, 0, none⟩) 2 2, .int .i64 0] 25)))
  have g3 : (((w3.alloc (.cells #[.string ⟨#[97]⟩, .string ⟨#[98]⟩] 9)).alloc (.cells #[.int .i64 0, .int .i64 1, .int .i64 1, .int .i64 0] 39)).alloc (.cells #[.string ⟨#[99]⟩, .slice (some ⟨w3.heap.size, 0, none⟩) 2 2, .slice (some ⟨w3.heap.size + 1, 0, none⟩) 2 2, .int .i64 0] 25)).heap[w3.heap.size + 1 + 1]? = some (.cells #[.string ⟨#[99]⟩, .slice (some ⟨w3.heap.size, 0, none⟩) 2 2, .slice (some ⟨w3.heap.size + 1, 0, none⟩) 2 2, .int .i64 0] 25 (0, 0)) := by
    have := heap_alloc_new ((w3.alloc (.cells #[.string ⟨#[97]⟩, .string ⟨#[98]⟩] 9)).alloc (.cells #[.int .i64 0, .int .i64 1, .int .i64 1, .int .i64 0] 39)) (.cells #[.string ⟨#[99]⟩, .slice (some ⟨w3.heap.size, 0, none⟩) 2 2, .slice (some ⟨w3.heap.size + 1, 0, none⟩) 2 2, .int .i64 0] 25)
    rwa [show ((w3.alloc (.cells #[.string ⟨#[97]⟩, .string ⟨#[98]⟩] 9)).alloc (.cells #[.int .i64 0, .int .i64 1, .int .i64 1, .int .i64 0] 39)).heap.size = w3.heap.size + 1 + 1 from by simp] at this
  have bN : Below w3.heap.size w3 (((w3.alloc (.cells #[.string ⟨#[97]⟩, .string ⟨#[98]⟩] 9)).alloc (.cells #[.int .i64 0, .int .i64 1, .int .i64 1, .int .i64 0] 39)).alloc (.cells #[.string ⟨#[99]⟩, .slice (some ⟨w3.heap.size, 0, none⟩) 2 2, .slice (some ⟨w3.heap.size + 1, 0, none⟩) 2 2, .int .i64 0] 25)) := below_alloc' (below_alloc' (below_new w3 _))
  obtain ⟨w4, hB⟩ : ∃ x : World, x = ((w3.alloc (.cells #[.string ⟨#[97]⟩, .string ⟨#[98]⟩] 9)).alloc (.cells #[.int .i64 0, .int .i64 1, .int .i64 1, .int .i64 0] 39)).alloc (.cells #[.string ⟨#[99]⟩, .slice (some ⟨w3.heap.size, 0, none⟩) 2 2, .slice (some ⟨w3.heap.size + 1, 0, none⟩) 2 2, .int .i64 0] 25) := ⟨_, rfl⟩
  rw [← hB] at h3 g3 bN
  replace g1 := block_keep g1 bN
  replace g2 := block_keep g2 bN
  replace h1 := h1.keep (keeps_below bN)
  replace h2 := h2.keep (keeps_below bN)
  replace b0 := below_trans b0 bN
  clear bN
  go_upto_region 4 with fail
  rw [← hB]
  clear hB
  have h4 : IsLtc (w4.alloc (.cells #[.string ⟨#[97]⟩, .string ⟨#[97]⟩] 9)) (.agg #[.string ⟨#[99]⟩, .slice (some ⟨w4.heap.size, 0, none⟩) 2 2, .slice none 0 0, .int .i64 0]) sameL := lat_one (nm := sameL.name) (ns := sameL.elems) (at_ := 0) _ rfl (by decide)
  replace h4 := h4.keep (keeps_below (below_new _ (.cells #[.string ⟨#[99]⟩, .slice (some ⟨w4.heap.size, 0, none⟩) 2 2, .slice none 0 0, .int .i64 0] 25)))
  have g4 : ((w4.alloc (.cells #[.string ⟨#[97]⟩, .string ⟨#[97]⟩] 9)).alloc (.cells #[.string ⟨#[99]⟩, .slice (some ⟨w4.heap.size, 0, none⟩) 2 2, .slice none 0 0, .int .i64 0] 25)).heap[w4.heap.size + 1]? = some (.cells #[.string ⟨#[99]⟩, .slice (some ⟨w4.heap.size, 0, none⟩) 2 2, .slice none 0 0, .int .i64 0] 25 (0, 0)) := by
    have := heap_alloc_new (w4.alloc (.cells #[.string ⟨#[97]⟩, .string ⟨#[97]⟩] 9)) (.cells #[.string ⟨#[99]⟩, .slice (some ⟨w4.heap.size, 0, none⟩) 2 2, .slice none 0 0, .int .i64 0] 25)
    rwa [show (w4.alloc (.cells #[.string ⟨#[97]⟩, .string ⟨#[97]⟩] 9)).heap.size = w4.heap.size + 1 from by simp] at this
  have bN : Below w4.heap.size w4 ((w4.alloc (.cells #[.string ⟨#[97]⟩, .string ⟨#[97]⟩] 9)).alloc (.cells #[.string ⟨#[99]⟩, .slice (some ⟨w4.heap.size, 0, none⟩) 2 2, .slice none 0 0, .int .i64 0] 25)) := below_alloc' (below_new w4 _)
  obtain ⟨w5, hB⟩ : ∃ x : World, x = (w4.alloc (.cells #[.string ⟨#[97]⟩, .string ⟨#[97]⟩] 9)).alloc (.cells #[.string ⟨#[99]⟩, .slice (some ⟨w4.heap.size, 0, none⟩) 2 2, .slice none 0 0, .int .i64 0] 25) := ⟨_, rfl⟩
  rw [← hB] at h4 g4 bN
  replace g1 := block_keep g1 bN
  replace g2 := block_keep g2 bN
  replace g3 := block_keep g3 bN
  replace h1 := h1.keep (keeps_below bN)
  replace h2 := h2.keep (keeps_below bN)
  replace h3 := h3.keep (keeps_below bN)
  replace b0 := below_trans b0 bN
  clear bN
  go_upto_region 5 with fail
  rw [← hB]
  clear hB
  have h5 : IsLtc (w5.alloc (.cells #[.string ⟨#[97]⟩] 9)) (.agg #[.string ⟨#[118, 105, 101, 119]⟩, .slice (some ⟨w5.heap.size, 0, none⟩) 1 1, .slice none 0 0, .int .i64 0]) keyL := lat_one (nm := keyL.name) (ns := keyL.elems) (at_ := 0) _ rfl (by decide)
  replace h5 := h5.keep (keeps_below (below_new _ (.cells #[.string ⟨#[118, 105, 101, 119]⟩, .slice (some ⟨w5.heap.size, 0, none⟩) 1 1, .slice none 0 0, .int .i64 0] 25)))
  have g5 : ((w5.alloc (.cells #[.string ⟨#[97]⟩] 9)).alloc (.cells #[.string ⟨#[118, 105, 101, 119]⟩, .slice (some ⟨w5.heap.size, 0, none⟩) 1 1, .slice none 0 0, .int .i64 0] 25)).heap[w5.heap.size + 1]? = some (.cells #[.string ⟨#[118, 105, 101, 119]⟩, .slice (some ⟨w5.heap.size, 0, none⟩) 1 1, .slice none 0 0, .int .i64 0] 25 (0, 0)) := by
    have := heap_alloc_new (w5.alloc (.cells #[.string ⟨#[97]⟩] 9)) (.cells #[.string ⟨#[118, 105, 101, 119]⟩, .slice (some ⟨w5.heap.size, 0, none⟩) 1 1, .slice none 0 0, .int .i64 0] 25)
    rwa [show (w5.alloc (.cells #[.string ⟨#[97]⟩] 9)).heap.size = w5.heap.size + 1 from by simp] at this
  have bN : Below w5.heap.size w5 ((w5.alloc (.cells #[.string ⟨#[97]⟩] 9)).alloc (.cells #[.string ⟨#[118, 105, 101, 119]⟩, .slice (some ⟨w5.heap.size, 0, none⟩) 1 1, .slice none 0 0, .int .i64 0] 25)) := below_alloc' (below_new w5 _)
  obtain ⟨w6, hB⟩ : ∃ x : World, x = (w5.alloc (.cells #[.string ⟨#[97]⟩] 9)).alloc (.cells #[.string ⟨#[118, 105, 101, 119]⟩, .slice (some ⟨w5.heap.size, 0, none⟩) 1 1, .slice none 0 0, .int .i64 0] 25) := ⟨_, rfl⟩
  rw [← hB] at h5 g5 bN
  replace g1 := block_keep g1 bN
  replace g2 := block_keep g2 bN
  replace g3 := block_keep g3 bN
  replace g4 := block_keep g4 bN
  replace h1 := h1.keep (keeps_below bN)
  replace h2 := h2.keep (keeps_below bN)
  replace h3 := h3.keep (keeps_below bN)
  replace h4 := h4.keep (keeps_below bN)
  replace b0 := below_trans b0 bN
  clear bN
  have g1' := g1
  rw [hB] at g1'
  obtain ⟨y00, y01, y02, y03⟩ := Box4.of g1'
  go_wp2_with fail
  rw [← hB]
  clear hB g1'
  refine (Check_any _ diaL _ h1 (hK.keep (keeps_below b0))).mono ?_
  rintro e w7 ⟨rfl, bN⟩
  rw [HF1.out]
  clear y00 y01 y02 y03
  replace g1 := block_keep g1 bN
  replace g2 := block_keep g2 bN
  replace g3 := block_keep g3 bN
  replace g4 := block_keep g4 bN
  replace g5 := block_keep g5 bN
  replace h1 := h1.keep (keeps_below bN)
  replace h2 := h2.keep (keeps_below bN)
  replace h3 := h3.keep (keeps_below bN)
  replace h4 := h4.keep (keeps_below bN)
  replace h5 := h5.keep (keeps_below bN)
  replace b0 := below_trans b0 bN
  clear bN
  obtain ⟨y00, y01, y02, y03⟩ := Box4.of g1
  go_wp2_with fail
  refine (Join_any _ diaL 1 2 _ h1 (hK.keep (keeps_below b0))).mono ?_
  rintro e w8 ⟨rfl, bN⟩
  rw [HF2.out]
  clear y00 y01 y02 y03
  replace g1 := block_keep g1 bN
  replace g2 := block_keep g2 bN
  replace g3 := block_keep g3 bN
  replace g4 := block_keep g4 bN
  replace g5 := block_keep g5 bN
  replace h1 := h1.keep (keeps_below bN)
  replace h2 := h2.keep (keeps_below bN)
  replace h3 := h3.keep (keeps_below bN)
  replace h4 := h4.keep (keeps_below bN)
  replace h5 := h5.keep (keeps_below bN)
  replace b0 := below_trans b0 bN
  clear bN
  obtain ⟨y00, y01, y02, y03⟩ := Box4.of g1
  go_wp2_with fail
  refine (Join_any _ diaL 0 2 _ h1 (hK.keep (keeps_below b0))).mono ?_
  rintro e w9 ⟨rfl, bN⟩
  rw [HF3.out]
  clear y00 y01 y02 y03
  replace g1 := block_keep g1 bN
  replace g2 := block_keep g2 bN
  replace g3 := block_keep g3 bN
  replace g4 := block_keep g4 bN
  replace g5 := block_keep g5 bN
  replace h1 := h1.keep (keeps_below bN)
  replace h2 := h2.keep (keeps_below bN)
  replace h3 := h3.keep (keeps_below bN)
  replace h4 := h4.keep (keeps_below bN)
  replace h5 := h5.keep (keeps_below bN)
  replace b0 := below_trans b0 bN
  clear bN
  obtain ⟨y00, y01, y02, y03⟩ := Box4.of g1
  go_wp2_with fail
  refine (Bottom_any _ diaL _ h1 (hK.keep (keeps_below b0))).mono ?_
  rintro e w10 ⟨rfl, bN⟩
  rw [HF4.out]
  clear y00 y01 y02 y03
  replace g1 := block_keep g1 bN
  replace g2 := block_keep g2 bN
  replace g3 := block_keep g3 bN
  replace g4 := block_keep g4 bN
  replace g5 := block_keep g5 bN
  replace h1 := h1.keep (keeps_below bN)
  replace h2 := h2.keep (keeps_below bN)
  replace h3 := h3.keep (keeps_below bN)
  replace h4 := h4.keep (keeps_below bN)
  replace h5 := h5.keep (keeps_below bN)
  replace b0 := below_trans b0 bN
  clear bN
  obtain ⟨y00, y01, y02, y03⟩ := Box4.of g1
  go_wp2_with fail
  refine (Leq_any _ diaL 0 3 _ h1 (hK.keep (keeps_below b0))).mono ?_
  rintro e w11 ⟨rfl, bN⟩
  rw [HF5.out]
  clear y00 y01 y02 y03
  replace g1 := block_keep g1 bN
  replace g2 := block_keep g2 bN
  replace g3 := block_keep g3 bN
  replace g4 := block_keep g4 bN
  replace g5 := block_keep g5 bN
  replace h1 := h1.keep (keeps_below bN)
  replace h2 := h2.keep (keeps_below bN)
  replace h3 := h3.keep (keeps_below bN)
  replace h4 := h4.keep (keeps_below bN)
  replace h5 := h5.keep (keeps_below bN)
  replace b0 := below_trans b0 bN
  clear bN
  obtain ⟨y00, y01, y02, y03⟩ := Box4.of g1
  go_wp2_with fail
  refine (Leq_any _ diaL 1 2 _ h1 (hK.keep (keeps_below b0))).mono ?_
  rintro e w12 ⟨rfl, bN⟩
  rw [HF6.out]
  clear y00 y01 y02 y03
  replace g1 := block_keep g1 bN
  replace g2 := block_keep g2 bN
  replace g3 := block_keep g3 bN
  replace g4 := block_keep g4 bN
  replace g5 := block_keep g5 bN
  replace h1 := h1.keep (keeps_below bN)
  replace h2 := h2.keep (keeps_below bN)
  replace h3 := h3.keep (keeps_below bN)
  replace h4 := h4.keep (keeps_below bN)
  replace h5 := h5.keep (keeps_below bN)
  replace b0 := below_trans b0 bN
  clear bN
  obtain ⟨y00, y01, y02, y03⟩ := Box4.of g1
  go_wp2_with fail
  have hl : IsInts (w12.alloc (.cells #[.int .i64 2, .int .i64 0, .int .i64 1] 3)) (.slice (some ⟨w12.heap.size, 0, none⟩) 3 3) [2, 0, 1] := ints_lit w12 [2, 0, 1] (by decide)
  have bl := below_new w12 (.cells #[.int .i64 2, .int .i64 0, .int .i64 1] 3)
  refine (Lub_any _ diaL _ [2, 0, 1] _ (h1.keep (keeps_below bl)) hl (hK.keep (keeps_below (below_trans b0 bl)))).mono ?_
  rintro e w13 ⟨rfl, bN⟩
  rw [HF7.out]
  clear y00 y01 y02 y03
  replace bN := below_trans (below_new w12 (.cells #[.int .i64 2, .int .i64 0, .int .i64 1] 3)) bN
  replace g1 := block_keep g1 bN
  replace g2 := block_keep g2 bN
  replace g3 := block_keep g3 bN
  replace g4 := block_keep g4 bN
  replace g5 := block_keep g5 bN
  replace h1 := h1.keep (keeps_below bN)
  replace h2 := h2.keep (keeps_below bN)
  replace h3 := h3.keep (keeps_below bN)
  replace h4 := h4.keep (keeps_below bN)
  replace h5 := h5.keep (keeps_below bN)
  replace b0 := below_trans b0 bN
  clear bN
  clear hl bl
  obtain ⟨y00, y01, y02, y03⟩ := Box4.of g1
  go_wp2_with fail
  have hl : IsInts (w13.alloc (.cells #[.int .i64 4] 3)) (.slice (some ⟨w13.heap.size, 0, none⟩) 1 1) [4] := ints_lit w13 [4] (by decide)
  have bl := below_new w13 (.cells #[.int .i64 4] 3)
  refine (Lub_any _ diaL _ [4] _ (h1.keep (keeps_below bl)) hl (hK.keep (keeps_below (below_trans b0 bl)))).mono ?_
  rintro e w14 ⟨rfl, bN⟩
  rw [HF8.out]
  clear y00 y01 y02 y03
  replace bN := below_trans (below_new w13 (.cells #[.int .i64 4] 3)) bN
  replace g1 := block_keep g1 bN
  replace g2 := block_keep g2 bN
  replace g3 := block_keep g3 bN
  replace g4 := block_keep g4 bN
  replace g5 := block_keep g5 bN
  replace h1 := h1.keep (keeps_below bN)
  replace h2 := h2.keep (keeps_below bN)
  replace h3 := h3.keep (keeps_below bN)
  replace h4 := h4.keep (keeps_below bN)
  replace h5 := h5.keep (keeps_below bN)
  replace b0 := below_trans b0 bN
  clear bN
  clear hl bl
  obtain ⟨y00, y01, y02, y03⟩ := Box4.of g1
  go_wp2_with fail
  refine (Irr_any _ diaL _ h1 (hK.keep (keeps_below b0))).mono ?_
  rintro e w15 ⟨ia, ic, rfl, ti, bN⟩
  rw [HF9.out] at ti ⊢
  clear y00 y01 y02 y03
  replace g1 := block_keep g1 bN
  replace g2 := block_keep g2 bN
  replace g3 := block_keep g3 bN
  replace g4 := block_keep g4 bN
  replace g5 := block_keep g5 bN
  replace h1 := h1.keep (keeps_below bN)
  replace h2 := h2.keep (keeps_below bN)
  replace h3 := h3.keep (keeps_below bN)
  replace h4 := h4.keep (keeps_below bN)
  replace h5 := h5.keep (keeps_below bN)
  replace b0 := below_trans b0 bN
  clear bN
  go_wp2_with fail
  have hl : IsInts (w15.alloc (.cells #[.int .i64 1, .int .i64 2] 3)) (.slice (some ⟨w15.heap.size, 0, none⟩) 2 2) [1, 2] := ints_lit w15 [1, 2] (by decide)
  have bl := below_new w15 (.cells #[.int .i64 1, .int .i64 2] 3)
  refine (Ints_any _ _ [1, 2] [1, 2] _ (ti.keep (keeps_below bl)) hl).mono ?_
  rintro e w16 ⟨rfl, bN⟩
  rw [decide_eq_true (rfl : ([1, 2] : List Int) = [1, 2])]
  replace bN := below_trans bl bN
  clear ti hl bl
  replace g1 := block_keep g1 bN
  replace g2 := block_keep g2 bN
  replace g3 := block_keep g3 bN
  replace g4 := block_keep g4 bN
  replace g5 := block_keep g5 bN
  replace h1 := h1.keep (keeps_below bN)
  replace h2 := h2.keep (keeps_below bN)
  replace h3 := h3.keep (keeps_below bN)
  replace h4 := h4.keep (keeps_below bN)
  replace h5 := h5.keep (keeps_below bN)
  replace b0 := below_trans b0 bN
  clear bN
  obtain ⟨y00, y01, y02, y03⟩ := Box4.of g1
  go_wp2_with fail
  have hl : IsInts (w16.alloc (.cells #[.int .i64 0, .int .i64 1, .int .i64 1, .int .i64 3] 3)) (.slice (some ⟨w16.heap.size, 0, none⟩) 4 4) [0, 1, 1, 3] := ints_lit w16 [0, 1, 1, 3] (by decide)
  have bl := below_new w16 (.cells #[.int .i64 0, .int .i64 1, .int .i64 1, .int .i64 3] 3)
  refine (Mono_any _ diaL _ [0, 1, 1, 3] _ (h1.keep (keeps_below bl)) hl (hK.keep (keeps_below (below_trans b0 bl)))).mono ?_
  rintro e w17 ⟨rfl, bN⟩
  rw [HF10.out]
  clear y00 y01 y02 y03
  replace bN := below_trans (below_new w16 (.cells #[.int .i64 0, .int .i64 1, .int .i64 1, .int .i64 3] 3)) bN
  replace g1 := block_keep g1 bN
  replace g2 := block_keep g2 bN
  replace g3 := block_keep g3 bN
  replace g4 := block_keep g4 bN
  replace g5 := block_keep g5 bN
  replace h1 := h1.keep (keeps_below bN)
  replace h2 := h2.keep (keeps_below bN)
  replace h3 := h3.keep (keeps_below bN)
  replace h4 := h4.keep (keeps_below bN)
  replace h5 := h5.keep (keeps_below bN)
  replace b0 := below_trans b0 bN
  clear bN
  clear hl bl
  obtain ⟨y00, y01, y02, y03⟩ := Box4.of g1
  go_wp2_with fail
  have hl : IsInts (w17.alloc (.cells #[.int .i64 1, .int .i64 0, .int .i64 1, .int .i64 1] 3)) (.slice (some ⟨w17.heap.size, 0, none⟩) 4 4) [1, 0, 1, 1] := ints_lit w17 [1, 0, 1, 1] (by decide)
  have bl := below_new w17 (.cells #[.int .i64 1, .int .i64 0, .int .i64 1, .int .i64 1] 3)
  refine (Mono_any _ diaL _ [1, 0, 1, 1] _ (h1.keep (keeps_below bl)) hl (hK.keep (keeps_below (below_trans b0 bl)))).mono ?_
  rintro e w18 ⟨rfl, bN⟩
  rw [HF11.out]
  clear y00 y01 y02 y03
  replace bN := below_trans (below_new w17 (.cells #[.int .i64 1, .int .i64 0, .int .i64 1, .int .i64 1] 3)) bN
  replace g1 := block_keep g1 bN
  replace g2 := block_keep g2 bN
  replace g3 := block_keep g3 bN
  replace g4 := block_keep g4 bN
  replace g5 := block_keep g5 bN
  replace h1 := h1.keep (keeps_below bN)
  replace h2 := h2.keep (keeps_below bN)
  replace h3 := h3.keep (keeps_below bN)
  replace h4 := h4.keep (keeps_below bN)
  replace h5 := h5.keep (keeps_below bN)
  replace b0 := below_trans b0 bN
  clear bN
  clear hl bl
  obtain ⟨y00, y01, y02, y03⟩ := Box4.of g2
  go_wp2_with fail
  refine (Check_any _ openL _ h2 (hK.keep (keeps_below b0))).mono ?_
  rintro e w19 ⟨rfl, bN⟩
  rw [HF12.out]
  clear y00 y01 y02 y03
  replace g1 := block_keep g1 bN
  replace g2 := block_keep g2 bN
  replace g3 := block_keep g3 bN
  replace g4 := block_keep g4 bN
  replace g5 := block_keep g5 bN
  replace h1 := h1.keep (keeps_below bN)
  replace h2 := h2.keep (keeps_below bN)
  replace h3 := h3.keep (keeps_below bN)
  replace h4 := h4.keep (keeps_below bN)
  replace h5 := h5.keep (keeps_below bN)
  replace b0 := below_trans b0 bN
  clear bN
  obtain ⟨y00, y01, y02, y03⟩ := Box4.of g3
  go_wp2_with fail
  refine (Check_any _ loopL _ h3 (hK.keep (keeps_below b0))).mono ?_
  rintro e w20 ⟨rfl, bN⟩
  rw [HF13.out]
  clear y00 y01 y02 y03
  replace g1 := block_keep g1 bN
  replace g2 := block_keep g2 bN
  replace g3 := block_keep g3 bN
  replace g4 := block_keep g4 bN
  replace g5 := block_keep g5 bN
  replace h1 := h1.keep (keeps_below bN)
  replace h2 := h2.keep (keeps_below bN)
  replace h3 := h3.keep (keeps_below bN)
  replace h4 := h4.keep (keeps_below bN)
  replace h5 := h5.keep (keeps_below bN)
  replace b0 := below_trans b0 bN
  clear bN
  obtain ⟨y00, y01, y02, y03⟩ := Box4.of g4
  go_wp2_with fail
  refine (Check_any _ sameL _ h4 (hK.keep (keeps_below b0))).mono ?_
  rintro e w21 ⟨rfl, bN⟩
  rw [HF14.out]
  clear y00 y01 y02 y03
  replace g1 := block_keep g1 bN
  replace g2 := block_keep g2 bN
  replace g3 := block_keep g3 bN
  replace g4 := block_keep g4 bN
  replace g5 := block_keep g5 bN
  replace h1 := h1.keep (keeps_below bN)
  replace h2 := h2.keep (keeps_below bN)
  replace h3 := h3.keep (keeps_below bN)
  replace h4 := h4.keep (keeps_below bN)
  replace h5 := h5.keep (keeps_below bN)
  replace b0 := below_trans b0 bN
  clear bN
  obtain ⟨y00, y01, y02, y03⟩ := Box4.of g5
  go_wp2_with fail
  refine (Check_any _ keyL _ h5 (hK.keep (keeps_below b0))).mono ?_
  rintro e w22 ⟨rfl, bN⟩
  rw [HF15.out]
  clear y00 y01 y02 y03
  replace g1 := block_keep g1 bN
  replace g2 := block_keep g2 bN
  replace g3 := block_keep g3 bN
  replace g4 := block_keep g4 bN
  replace g5 := block_keep g5 bN
  replace h1 := h1.keep (keeps_below bN)
  replace h2 := h2.keep (keeps_below bN)
  replace h3 := h3.keep (keeps_below bN)
  replace h4 := h4.keep (keeps_below bN)
  replace h5 := h5.keep (keeps_below bN)
  replace b0 := below_trans b0 bN
  clear bN
  go_wp2
  go_ret
  exact ⟨rfl, b0⟩
end Go.Proofs.YtkjlflmcojmfgaaDoor
