/- The laws' helpers: fine, page, begins. -/
import Derived.Test.YtcembocnkndlhaaUa
import Derived.Test.YtcembocnkndlhaaRf
import Derived.Test.YtcembocnkndlhaaRc
import Derived.Test.YtcembocnkndlhaaWl
namespace Go.Proofs.Ytcembocnkndlhaa
open Go.RowKit
def fineD (d : Dk) : Bool := smallD d && formed d && !d.down
set_option maxHeartbeats 4000000 in
set_option maxRecDepth 100000 in
theorem fine_any (v : Value) (d : Dk) (w : World) (h : IsDisk w v d) :
    Calls Try.prog 33 #[v] w fun e w' => e = .returned (.bool (fineD d)) ∧ Below w.heap.size w w' := by
  have h0 := h
  obtain ⟨pa, pc, wa, wc, rfl, -, -, m1, m2, m3⟩ := h.shape
  obtain ⟨C, hC⟩ : ∃ C, C = Obj.cells #[.slice pa d.pages.length pc, .slice wa d.writes.length wc, .bool d.down] 25 := ⟨_, rfl⟩
  obtain ⟨wb, hwb⟩ : ∃ x : World, x = w.alloc C := ⟨_, rfl⟩
  have b0 : Below w.heap.size w wb := by subst hwb; exact below_new _ _
  have g0 : wb.heap[w.heap.size]? = some (.cells #[.slice pa d.pages.length pc, .slice wa d.writes.length wc, .bool d.down] 25 (0, 0)) := by
    subst hC hwb; exact heap_alloc_new _ _
  cases hs : smallD d
  · have H := Lib.hid (show fineD d = false by unfold fineD; rw [hs]; rfl)
    have HS := Lib.hid hs
    clear hs
    go_enter Try.func33, Try.ntmps33
    go_wp2_with fail
    rw [← hC, ← hwb]
    refine (Small_eq (h0.keep b0) _ HS.out).mono ?_
    rintro e w3 ⟨rfl, b3⟩
    go_wp2
    go_ret
    exact ⟨by rw [H.out]; rfl, below_trans b0 b3⟩
  cases hf : formed d
  · have H := Lib.hid (show fineD d = false by unfold fineD; rw [hf]; simp)
    have HS := Lib.hid hs
    have HF := Lib.hid hf
    clear hs hf
    go_enter Try.func33, Try.ntmps33
    go_wp2_with fail
    rw [← hC, ← hwb]
    refine (Small_eq (h0.keep b0) _ HS.out).mono ?_
    rintro e w3 ⟨rfl, b3⟩
    obtain ⟨y0, y1, y2, -, -, -⟩ := Box3.of (block_keep g0 b3)
    go_wp2_with fail
    refine (rformed_eq (h0.keep (below_trans b0 b3)) _ HF.out).mono ?_
    rintro e w4 ⟨rfl, b4⟩
    go_wp2
    go_ret
    exact ⟨by rw [H.out]; rfl, below_trans (below_trans b0 b3) b4⟩
  · have H := Lib.hid (show fineD d = !d.down by unfold fineD; rw [hf, hs]; simp)
    have HS := Lib.hid hs
    have HF := Lib.hid hf
    clear hs hf
    go_enter Try.func33, Try.ntmps33
    go_wp2_with fail
    rw [← hC, ← hwb]
    refine (Small_eq (h0.keep b0) _ HS.out).mono ?_
    rintro e w3 ⟨rfl, b3⟩
    obtain ⟨y0, y1, y2, -, -, -⟩ := Box3.of (block_keep g0 b3)
    go_wp2_with fail
    refine (rformed_eq (h0.keep (below_trans b0 b3)) _ HF.out).mono ?_
    rintro e w4 ⟨rfl, b4⟩
    clear y0 y1 y2
    obtain ⟨y0, y1, y2, -, -, -⟩ := Box3.of (block_keep (block_keep g0 b3) b4)
    go_wp2
    go_ret
    exact ⟨by rw [H.out]; rfl, below_trans (below_trans b0 b3) b4⟩
theorem fine_eq {v : Value} {d : Dk} {w : World} (h : IsDisk w v d) (b : Bool) (hb : fineD d = b) :
    Calls Try.prog 33 #[v] w fun e w' => e = .returned (.bool b) ∧ Below w.heap.size w w' := by
  subst hb; exact fine_any v d w h
/-- What page hands back. -/
def BytesRet (l : List UInt8) (w : World) (e : Ending) (w' : World) : Prop := ∃ a c, e = .returned (.slice a l.length c) ∧ IsBytes w' (.slice a l.length c) l ∧ Below w.heap.size w w'
theorem page_any (v : Value) (d : Dk) (k : Int) (w : World) (h : IsDisk w v d) : Calls Try.prog 34 #[v, .int .i64 k] w (BytesRet (readD d k).1 w) := by
  have h0 := h
  obtain ⟨pa, pc, wa, wc, rfl, -, -, m1, m2, m3⟩ := h.shape
  obtain ⟨C, hC⟩ : ∃ C, C = Obj.cells #[.slice pa d.pages.length pc, .slice wa d.writes.length wc, .bool d.down] 25 := ⟨_, rfl⟩
  obtain ⟨wb, hwb⟩ : ∃ x : World, x = w.alloc C := ⟨_, rfl⟩
  have b0 : Below w.heap.size w wb := by subst hwb; exact below_new _ _
  go_enter Try.func34, Try.ntmps34
  go_wp2_with fail
  rw [← hC, ← hwb]
  refine (Read_any _ d k _ (h0.keep b0)).mono ?_
  rintro e w3 ⟨u, rfl, hB, b3⟩
  obtain ⟨a, c, rfl, hm⟩ := id hB
  go_wp2
  go_ret
  exact ⟨a, c, rfl, hB, below_trans b0 b3⟩
theorem begins_any (va vb : Value) (a b : List UInt8) (w : World) (ha : IsBytes w va a) (hb : IsBytes w vb b) (hl : b.length ≤ 64) :
    Calls Try.prog 55 #[va, vb] w fun e w' => e = .returned (.bool (decide (a = full b))) ∧ Below w.heap.size w w' := by
  rw [full_rfull hl]
  go_enter Try.func55, Try.ntmps55
  go_wp2_with fail
  refine rFull_ts hb (by omega) ?_
  intro g c w3 hF b3
  go_wp2_with fail
  refine (SameBytes_any _ _ a (rfull b) _ (ha.keep b3) (OwnB.is hF (by simp [rfull, zeros]; omega))).mono ?_
  rintro e w4 ⟨rfl, n, rfl⟩
  go_wp2
  go_ret
  exact ⟨rfl, below_drewN b3 n⟩
end Go.Proofs.Ytcembocnkndlhaa
