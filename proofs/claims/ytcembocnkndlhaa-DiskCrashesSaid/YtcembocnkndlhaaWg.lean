/- The walks of spin and of the plate's write. -/
import Derived.Test.YtcembocnkndlhaaOwn
namespace Go.Proofs.Ytcembocnkndlhaa
open Go.RowKit
def Spun (L : List (List UInt8)) (w : World) (e : Ending) (w' : World) : Prop :=
  ∃ gp pv, e = .returned (.pointer (some ⟨gp, 0, none⟩)) ∧ w.heap.size ≤ gp ∧ w'.heap[gp]? = some (.cells #[pv] 77 (0, 0)) ∧ OwnPages w' (gp + 1) pv L ∧ Below w.heap.size w w'
set_option maxHeartbeats 2000000 in
set_option maxRecDepth 100000 in
theorem spin_any (v : Value) (d : Dk) (w : World) (h : IsDisk w v d) (hl : d.pages.length ≤ 400) :
    Calls Try.prog 61 #[v] w (Spun (d.pages.map full) w) := by
  obtain ⟨pa, pc, wa, wc, rfl, hp, hw, m1, m2⟩ := h.shape
  obtain ⟨ps, ws, dn⟩ := d
  dsimp only at *
  obtain ⟨C, hC⟩ : ∃ C, C = Obj.cells #[.slice pa ps.length pc, .slice wa ws.length wc, .bool dn] 25 := ⟨_, rfl⟩
  obtain ⟨P, hP⟩ : ∃ P, P = Obj.cells #[.slice none 0 0] 77 := ⟨_, rfl⟩
  obtain ⟨wb, hwb⟩ : ∃ x : World, x = (w.alloc C).alloc P := ⟨_, rfl⟩
  have b0 : Below w.heap.size w wb := by subst hwb; exact below_trans (below_new _ _) (below_new _ _)
  have g1 : wb.heap[w.heap.size + 1]? = some (.cells #[.slice none 0 0] 77 (0, 0)) := by
    subst hwb hP
    have := heap_alloc_new (w.alloc C) (.cells #[.slice none 0 0] 77)
    simpa using this
  have hsb : wb.heap.size = w.heap.size + 1 + 1 := by subst hwb; simp
  go_enter Try.func61, Try.ntmps61
  go_wp2
  rw [← hC, ← hP, ← hwb]
  clear hC hP hwb
  go_loopw [5, 11] (fun _ i wr => ∃ (k : Nat) (pv : Value), k ≤ ps.length ∧ i = .int .i64 k ∧ wr.heap[w.heap.size + 1]? = some (.cells #[pv] 77 (0, 0)) ∧ OwnPages wr (w.heap.size + 1 + 1) pv ((ps.take k).map full) ∧ Below w.heap.size w wr ∧ w.heap.size + 1 + 1 ≤ wr.heap.size) (fun _ i _ => ps.length - (intOf i).toNat)
  case atStart => exact ⟨0, _, Nat.zero_le _, rfl, g1, OwnPages.nil _ _, b0, by omega⟩
  case round =>
    obtain ⟨k, pv, hk, rfl, hg, hO, hb, hs⟩ := hrel
    by_cases hlt : k < ps.length
    · obtain ⟨wo, rfl⟩ : ∃ wo : World, wo = wr := ⟨_, rfl⟩
      obtain ⟨b, off, qa, qc, rfl, hc, hB⟩ := (hp.keep hb).at_ (List.getElem?_eq_getElem hlt)
      have HT := Lib.hid (List.take_succ_eq_append_getElem hlt)
      generalize ps[k] = l at *
      obtain ⟨Lk, hLk⟩ : ∃ Lk, (ps.take k).map full = Lk := ⟨_, rfl⟩
      have HLk := Lib.hid hLk
      have hLe : Lk.length ≤ 1000 := by rw [← hLk]; simp; omega
      rw [hLk] at hO
      clear hLk
      obtain ⟨va, vc, rfl⟩ := hO.len
      have hcg : wo.cell? ⟨w.heap.size + 1, 0, none⟩ = some (.slice va Lk.length vc) := cell_at (j := 0) hg rfl
      have hfg : wo.frozen? ⟨w.heap.size + 1, 0, none⟩ = false := free_at (j := 0) hg
      have HB := fun (W : World) (hW : Below wo.heap.size wo W) => hB.keep hW
      have HS : ∀ W, Below wo.heap.size wo W → W.cell? ⟨w.heap.size + 1, 0, none⟩ = some (.slice va Lk.length vc) := fun W hW => cell_keep hW hcg
      have HS2 : ∀ W, Below (w.heap.size + 1 + 1) wo W → W.cell? ⟨w.heap.size + 1, 0, none⟩ = some (.slice va Lk.length vc) := fun W hW => (hW.cell (p := ⟨w.heap.size + 1, 0, none⟩) (by simp)).trans hcg
      have HF : ∀ W, Below (w.heap.size + 1 + 1) wo W → W.frozen? ⟨w.heap.size + 1, 0, none⟩ = false := fun W hW => (hW.frozen (p := ⟨w.heap.size + 1, 0, none⟩) (by simp)).trans hfg
      go_wp2
      go_region_law
        (first
          | (go_simp; go_at_call 58; refine full_ts (HB _ (by with_reducible (repeat (first | assumption | exact Below.refl _ _ | refine below_alloc' ?_ | refine below_drew' ?_ | refine below_step (by assumption) ?_)))) ?_; intro q wF hF bF; have hF : OwnPage wF wo.heap.size (pageV q) (full l) := hF; have bF : Below wo.heap.size wo wF := below_undrew bF; have cF := HS wF bF; have cG := HS (wF.alloc (.cells #[.slice (some ⟨q, 0, none⟩) 64 64] 26)) (below_alloc' bF))
          | (have tF := hF; refine step_push (wr := wo) (q := q) (g1 := wF.heap.size) (l := full l) (bt := 26) rfl (.tmp 19) (.tmp 22) 75 (by rfl) Try.underlying75 (by rfl) (by rfl) hO (by with_reducible (repeat (first | assumption | exact Below.refl _ _ | refine below_alloc' ?_ | refine below_drew' ?_ | refine below_step (by assumption) ?_))) (by with_reducible (repeat (first | exact hF | apply OwnPage.alloc | apply OwnPage.drew))) hs (by exact heap_alloc_new wF _) hLe ?_; intro g cap wP hP bP _ _; have cP := HS2 _ bP; have fP := HF _ bP) | fail)
      all_goals
        go_wp2
        go_roundw
        case rel =>
          have hgP : wP.heap[w.heap.size + 1]? = some (.cells #[.slice va Lk.length vc] 77 (0, 0)) := (bP.block _ (by omega)).trans hg
          refine ⟨k + 1, _, by omega, by go_num, box1_set hgP, ?_, (hb.trans (bP.mono (by omega))).setCell (p := ⟨w.heap.size + 1, 0, none⟩) (by simp) _, ?_⟩
          · rw [HT.out, List.map_append, HLk.out]
            exact hP.store (p := ⟨w.heap.size + 1, 0, none⟩) (by simp) _
          · have := bP.size; simp [World.setCell]; omega
        case measure => simp [intOf]; omega
    · have e : k = ps.length := by omega
      subst e
      rw [List.take_length] at hO
      go_wp2
      go_ret
      exact ⟨_, _, rfl, by omega, hg, hO, hb⟩
end Go.Proofs.Ytcembocnkndlhaa
