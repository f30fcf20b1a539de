/- The walks of Restart and New, the given program's and the reference's New. -/
import Derived.Test.YtcembocnkndlhaaWe
namespace Go.Proofs.Ytcembocnkndlhaa
open Go.RowKit
/-- What Crash, Restart hand back. -/
def DiskRet (d : Dk) (w : World) (e : Ending) (w' : World) : Prop := ∃ v, e = .returned v ∧ IsDisk w' v d ∧ Below w.heap.size w w'
theorem New_any (w : World) : Calls Try.prog 31 #[] w (DiskRet noDisk w) := by
  go_enter Try.func31, Try.ntmps31
  go_wp2
  refine bodyPost_ret (v := zeroV) (by simp [results, Try.results31, go_sem, zeroV]) rfl ?_
  exact ⟨zeroV, rfl, IsDisk.zero _, below_new _ _⟩
theorem rNew_any (w : World) : Calls Try.prog 32 #[] w (DiskRet noDisk w) := by
  go_enter Try.func32, Try.ntmps32
  go_wp2
  refine bodyPost_ret (v := zeroV) (by simp [results, Try.results32, go_sem, zeroV]) rfl ?_
  exact ⟨zeroV, rfl, IsDisk.zero _, below_new _ _⟩
set_option maxHeartbeats 1000000 in
theorem Restart_any (v : Value) (d : Dk) (w : World) (h : IsDisk w v d) : Calls Try.prog 29 #[v] w (DiskRet (restartD d) w) := by
  have h0 := h
  obtain ⟨pa, pc, wa, wc, rfl, hp, hw, m1, m2⟩ := h.shape
  obtain ⟨C, hC⟩ : ∃ C, C = Obj.cells #[.slice pa d.pages.length pc, .slice wa d.writes.length wc, .bool d.down] 25 := ⟨_, rfl⟩
  obtain ⟨Z, hZ⟩ : ∃ Z, Z = Obj.cells #[.slice none 0 0, .slice none 0 0, .bool false] 25 := ⟨_, rfl⟩
  obtain ⟨wb, hwb⟩ : ∃ x : World, x = (w.alloc C).alloc Z := ⟨_, rfl⟩
  have b1 := below_new w C
  have b2 : Below (w.alloc C).heap.size (w.alloc C) wb := by subst hwb; exact below_new _ _
  have b0 := below_trans b1 b2
  have g0 : wb.heap[w.heap.size]? = some (.cells #[.slice pa d.pages.length pc, .slice wa d.writes.length wc, .bool d.down] 25 (0, 0)) := by
    subst hC; exact box_at b2
  have g1 : wb.heap[w.heap.size + 1]? = some (.cells #[.slice none 0 0, .slice none 0 0, .bool false] 25 (0, 0)) := by
    subst hwb hZ
    have := heap_alloc_new (w.alloc C) (.cells #[.slice none 0 0, .slice none 0 0, .bool false] 25)
    simpa using this
  cases hf : formed d
  · have H := Lib.hid (show restartD d = noDisk by unfold restartD; rw [hf]; rfl)
    have HF := Lib.hid hf
    clear hf
    go_enter Try.func29, Try.ntmps29
    go_wp2_with fail
    rw [← hC, ← hZ, ← hwb]
    refine (formed_eq (h0.keep b0) _ HF.out).mono ?_
    rintro e w3 ⟨rfl, b3⟩
    obtain ⟨u0, u1, u2, uf0, uf1, uf2⟩ := Box3.of (block_keep g1 b3)
    go_wp2
    refine bodyPost_ret (v := zeroV) (by simp [results, Try.results29, go_sem, zeroV, u0, u1, u2]) rfl ?_
    refine ⟨zeroV, rfl, by rw [H.out]; exact IsDisk.zero _, ?_⟩
    exact (((below_trans b0 b3).setCell (p := ⟨w.heap.size + 1, 0, none⟩) (by simp) _).setCell (p := ⟨w.heap.size + 1, 1, none⟩) (by simp) _).setCell (p := ⟨w.heap.size + 1, 2, none⟩) (by simp) _
  · have H := Lib.hid (show restartD d = ⟨d.pages, d.writes, false⟩ by unfold restartD; rw [hf]; rfl)
    have HF := Lib.hid hf
    clear hf
    go_enter Try.func29, Try.ntmps29
    go_wp2_with fail
    rw [← hC, ← hZ, ← hwb]
    refine (formed_eq (h0.keep b0) _ HF.out).mono ?_
    rintro e w3 ⟨rfl, b3⟩
    obtain ⟨u0, u1, u2, uf0, uf1, uf2⟩ := Box3.of (block_keep g1 b3)
    obtain ⟨z0, z1, z2, zf0, zf1, zf2⟩ := Box3.of (block_keep g0 b3)
    go_wp2
    refine bodyPost_ret (v := .agg #[.slice pa d.pages.length pc, .slice wa d.writes.length wc, .bool false]) (by simp [results, Try.results29, go_sem, u0, u1, u2]) rfl ?_
    have bF := ((((below_trans b0 b3).setCell (p := ⟨w.heap.size, 2, none⟩) (by simp) (.bool false)).setCell (p := ⟨w.heap.size + 1, 0, none⟩) (by simp) (.slice pa d.pages.length pc)).setCell (p := ⟨w.heap.size + 1, 1, none⟩) (by simp) (.slice wa d.writes.length wc)).setCell (p := ⟨w.heap.size + 1, 2, none⟩) (by simp) (.bool false)
    refine ⟨_, rfl, ?_, bF⟩
    rw [H.out]
    exact ⟨_, _, rfl, hp.keep bF, hw.keep bF⟩
end Go.Proofs.Ytcembocnkndlhaa
