/- The walk of the plate's write. -/
import Derived.Test.YtcembocnkndlhaaWg
import Derived.Deep.LoopGhost
namespace Go.Proofs.Ytcembocnkndlhaa
open Go.RowKit
def Wrote (gp : Nat) (L : List (List UInt8)) (w : World) (e : Ending) (w' : World) : Prop :=
  (∃ v, e = .returned v) ∧ ∃ pv, w'.heap[gp]? = some (.cells #[pv] 77 (0, 0)) ∧ OwnPages w' (gp + 1) pv L ∧ Below gp w w'
theorem set_modify {α : Type} {L : List α} {k : Nat} (f : α → α) (h : k < L.length) : L.set k (f L[k]) = L.modify k f := by
  apply List.ext_getElem?
  intro i
  rw [List.getElem?_set, List.getElem?_modify]
  by_cases e : k = i
  · subst e; simp [h]
  · simp [e]
theorem bytes_rows {w : World} {a : Option Addr} {c : Nat} {data : List UInt8} {m : Nat} (h : IsBytes w (.slice a m c) data) (n : Nat) : RowsAt 1 encB w a (data.take n) := by
  obtain ⟨a', c', e, hr, _⟩ := h
  rw [Value.slice.injEq] at e
  obtain ⟨rfl, -, -⟩ := e
  rcases hr with rfl | ⟨b, off, e, hc⟩
  · exact .inl (by simp)
  · refine .inr ⟨b, off, e, fun i x hx j u hj => ?_⟩
    rw [List.getElem?_take] at hx
    split at hx
    · exact hc i x hx j u hj
    · cases hx
theorem rep_snoc (L : List (List UInt8)) (m : Nat) (p : List UInt8) : L ++ List.replicate m p ++ [p] = L ++ List.replicate (m + 1) p := by
  rw [List.append_assoc, List.replicate_succ']
theorem box2 {w w' : World} {cs : Array Value} {t : TypeId} (hb : Below (w.alloc (.cells cs t)).heap.size (w.alloc (.cells cs t)) w') {j : Nat} {v : Value} (hv : cs[j]? = some v) : w'.cell? ⟨w.heap.size, j, none⟩ = some v := boxed hv hb
set_option maxHeartbeats 2000000 in
set_option maxRecDepth 100000 in
theorem plate_any (gp : Nat) (pv : Value) (L : List (List UInt8)) (k : Nat) (dv : Value) (data : List UInt8) (n : Nat) (w : World) (hg : w.heap[gp]? = some (.cells #[pv] 77 (0, 0))) (hO : OwnPages w (gp + 1) pv L) (hd : ∀ W, Below gp w W → IsBytes W dv data) (hdl : data.length = 64) (hk : k < 400) (hn : n ≤ 64) :
    Calls Try.prog 62 #[.pointer (some ⟨gp, 0, none⟩), .agg #[.int .i64 k, dv], .int .i64 n] w (Wrote gp (put L k data n) w) := by
  have hd0 := hd w (Below.refl _ _)
  obtain ⟨da, dc, rfl, hdr, hdm⟩ := hd0
  obtain ⟨sb, so, rfl⟩ : ∃ sb so, da = some ⟨sb, so, none⟩ := by
    rcases hdr with h | ⟨sb, so, h, _⟩
    · rw [h] at hdl; simp at hdl
    · exact ⟨sb, so, h⟩
  clear hdr
  have HDL := Lib.hid hdl
  rw [hdl] at hdm hd ⊢
  clear hdl
  obtain ⟨C, hC⟩ : ∃ C, C = Obj.cells #[.int .i64 k, .slice (some ⟨sb, so, none⟩) 64 dc] 49 := ⟨_, rfl⟩
  have b0 := below_new w C
  have g0 := block_keep hg b0
  have hgp : gp < w.heap.size := block_lt hg
  have hO0 := hO.keep b0
  have hsz : (w.alloc C).heap.size = w.heap.size + 1 := by simp
  have y0 : ∀ W, Below (w.alloc C).heap.size (w.alloc C) W → W.cell? ⟨w.heap.size, 0, none⟩ = some (.int .i64 k) := fun W hW => by subst hC; exact boxed rfl hW
  have y1 : ∀ W, Below (w.alloc C).heap.size (w.alloc C) W → W.cell? ⟨w.heap.size, 1, none⟩ = some (.slice (some ⟨sb, so, none⟩) 64 dc) := fun W hW => by subst hC; exact boxed rfl hW
  go_enter Try.func62, Try.ntmps62
  go_wp2
  rw [← hC]
  have hvb : ∀ j, pv.ownBlock = some j → j ≠ w.heap.size := fun j hj e => by
    obtain ⟨gs, h1, _⟩ := hO
    have := (h1.lt j hj).2; omega
  go_loopg [] (k + 1 - L.length) (fun g wr => ∃ (pv : Value) (m : Nat), m + g = k + 1 - L.length ∧ wr.heap[gp]? = some (.cells #[pv] 77 (0, 0)) ∧ OwnPages wr (gp + 1) pv (L ++ List.replicate m (full [])) ∧ wr.cell? ⟨w.heap.size, 0, none⟩ = some (.int .i64 k) ∧ wr.cell? ⟨w.heap.size, 1, none⟩ = some (.slice (some ⟨sb, so, none⟩) 64 dc) ∧ Below gp w wr ∧ w.heap.size + 1 ≤ wr.heap.size ∧ Hid (pv.ownBlock ≠ some w.heap.size))
  case atStart => exact ⟨pv, 0, by omega, g0, by simpa using hO0, y0 _ (Below.refl _ _), y1 _ (Below.refl _ _), b0.mono (by omega), by omega, Lib.hid fun e => hvb _ e rfl⟩
  case round =>
    obtain ⟨pv', m, hm, hgr, hOr, z0, z1, hb, hs, hne⟩ := hrel
    obtain ⟨wo, rfl⟩ : ∃ wo : World, wo = wr := ⟨_, rfl⟩
    obtain ⟨M, hM⟩ : ∃ M, L ++ List.replicate m (full []) = M := ⟨_, rfl⟩
    have hMl : M.length = L.length + m := by rw [← hM]; simp
    have HM := Lib.hid hM
    rw [hM] at hOr
    clear hM hO hO0 hg g0 y0 y1
    obtain ⟨va, vc, rfl⟩ := hOr.len
    have hcg : wo.cell? ⟨gp, 0, none⟩ = some (.slice va M.length vc) := cell_at (j := 0) hgr rfl
    have hfg : wo.frozen? ⟨gp, 0, none⟩ = false := free_at (j := 0) hgr
    have HM2 := Lib.hid hMl
    by_cases hle : M.length ≤ k
    · have hd : decide ((M.length : Int) ≤ (k : Int)) = true := decide_eq_true (by omega)
      have hL1 : M.length ≤ 1000 := by omega
      clear hMl
      go_wp2
      go_quiet (fail)
      go_wp2
      have b1 : Below wo.heap.size wo (wo.drewN nq) := below_drewN (Below.refl _ _) nq
      have hO1 := hOr.keep b1
      have hg1 := block_keep hgr b1
      have z0' := cell_keep b1 z0
      have z1' := cell_keep b1 z1
      have hs1 := Nat.le_trans hs b1.size
      have hb1 := hb.trans (b1.mono (show gp ≤ wo.heap.size by omega))
      generalize wo.drewN nq = w1 at *
      clear hOr hgr z0 z1 hs hb b1 hcg hfg
      have hcg : w1.cell? ⟨gp, 0, none⟩ = some (.slice va M.length vc) := cell_at (j := 0) hg1 rfl
      have hfg : w1.frozen? ⟨gp, 0, none⟩ = false := free_at (j := 0) hg1
      have HS : ∀ W, Below w1.heap.size w1 W → W.cell? ⟨gp, 0, none⟩ = some (.slice va M.length vc) := fun W hW => cell_keep hW hcg
      have HS2 : ∀ W, Below (gp + 1) w1 W → W.cell? ⟨gp, 0, none⟩ = some (.slice va M.length vc) := fun W hW => (hW.cell (p := ⟨gp, 0, none⟩) (by simp)).trans hcg
      have HF : ∀ W, Below (gp + 1) w1 W → W.frozen? ⟨gp, 0, none⟩ = false := fun W hW => (hW.frozen (p := ⟨gp, 0, none⟩) (by simp)).trans hfg
      have hbs : gp + 1 ≤ w1.heap.size := by omega
      go_region_law
        (first
          | (go_simp; go_at_call 58; refine full_ts (IsBytes.nil _) ?_; intro q wF hF bF; have hF : OwnPage wF w1.heap.size (pageV q) (full []) := hF; have bF : Below w1.heap.size w1 wF := below_undrew bF; have cF := HS wF bF; have cG := HS (wF.alloc (.cells #[.slice (some ⟨q, 0, none⟩) 64 64] 26)) (below_alloc' bF))
          | (have tF := hF; refine step_push (wr := w1) (q := q) (g1 := wF.heap.size) (l := full []) (bt := 26) rfl (.tmp 18) (.tmp 20) 75 (by rfl) Try.underlying75 (by rfl) (by rfl) hO1 (by with_reducible (repeat (first | assumption | exact Below.refl _ _ | refine below_alloc' ?_ | refine below_drew' ?_ | refine below_step (by assumption) ?_))) (by with_reducible (repeat (first | exact hF | apply OwnPage.alloc | apply OwnPage.drew))) hbs (by exact heap_alloc_new wF _) hL1 ?_; intro g cap wP hP bP gP aP; have cP := HS2 _ bP; have fP := HF _ bP) | fail)
      all_goals
        go_wp2
        go_roundg (gk - 1)
        case measure => have := HM2.out; omega
        case rel =>
          have hgP : wP.heap[gp]? = some (.cells #[.slice va M.length vc] 77 (0, 0)) := (bP.block _ (by omega)).trans hg1
          have hne' := hne.out
          have hcc : ∀ (j : Nat) (x : Value), w1.cell? ⟨w.heap.size, j, none⟩ = some x → (wP.setCell ⟨gp, 0, none⟩ (.slice (some ⟨g, 0, none⟩) (M.length + 1) cap)).cell? ⟨w.heap.size, j, none⟩ = some x := fun j x hx =>
            (World.cell?_of_block (w := wP) (Below.heap_setCell _ _ _ _ (by simp; omega))).trans (gP.cell hx fun e => hne' e.symm)
          refine ⟨_, m + 1, by have := HM2.out; omega, box1_set hgP, ?_, ?_, ?_, (hb1.trans (bP.mono (by omega))).setCell (p := ⟨gp, 0, none⟩) (by simp) _, ?_, ?_⟩
          · rw [← rep_snoc, HM.out]
            exact hP.store (p := ⟨gp, 0, none⟩) (by simp) _
          · exact hcc _ _ z0'
          · exact hcc _ _ z1'
          · have := bP.size; simp [World.setCell]; omega
          · refine Lib.hid fun e => ?_
            rcases aP with h | h
            · rw [h] at hne'; exact hne' (by simpa [Value.ownBlock] using e)
            · have : g = w.heap.size := by simpa [Value.ownBlock] using e
              omega
    · have hdd : decide ((M.length : Int) ≤ (k : Int)) = false := decide_eq_false (by omega)
      have hkM : k < M.length := by omega
      obtain ⟨pb, pc, g, e1, e2, e3, e4, e5, e6, e7, e8⟩ := hOr.open_ (List.getElem?_eq_getElem hkM)
      rw [Value.slice.injEq] at e1
      obtain ⟨rfl, -, rfl⟩ := e1
      have e9 : wo.cell? ⟨pb, k, none⟩ = some (.slice (some ⟨g, 0, none⟩) 64 64) := by rw [Nat.zero_add] at e3; exact e3
      have hkI : (k : Int) < (M.length : Int) := by omega
      have hkI0 : (0 : Int) ≤ (k : Int) := by omega
      have hnI : (n : Int) ≤ (dc : Int) := by omega
      have hnI0 : (0 : Int) ≤ (n : Int) := by omega
      have hP := Lib.hid (show M.set k (over data M[k] n) = put L k data n by
        have h1 : M = grow L (k + 1) := by
          rw [← HM.out]
          unfold grow
          congr 2
          omega
        subst h1
        unfold put
        exact set_modify (fun p => over data p n) hkM)
      have hRow := bytes_rows (hd wo hb) n
      have HD2 := Lib.hid (show n ≤ data.length by rw [HDL.out]; exact hn)
      have HK := Lib.hid (show M[k]? = some M[k] from List.getElem?_eq_getElem hkM)
      generalize M[k] = ml at *
      clear hMl e3 e8 hle e7 hd hkM
      go_wp2
      go_quiet (fail)
      go_wp2
      have b1 : Below wo.heap.size wo (wo.drewN nq) := below_drewN (Below.refl _ _) nq
      have hO1 := hOr.keep b1
      have hg1 := block_keep hgr b1
      have z0' := cell_keep b1 z0
      have z1' := cell_keep b1 z1
      have e9' := cell_keep b1 e9
      have hcg' := cell_keep b1 hcg
      have hRow' := hRow.keep (keeps_below b1)
      have hs1 := Nat.le_trans hs b1.size
      have hb1 := hb.trans (b1.mono (show gp ≤ wo.heap.size by omega))
      generalize wo.drewN nq = w1 at *
      clear hOr hgr z0 z1 hs hb b1 hcg hfg e9 e6 hRow hvb
      have HE := Lib.hid (show w1.cell? ⟨pb, 0 + k, none⟩ = some (pageV g) by rw [Nat.zero_add]; exact e9')
      go_region_law ((refine step_copy_page (v := .slice (some ⟨pb, 0, none⟩) M.length vc) rfl (.tmp 31) (.tmp 35) (by rfl) hO1 HK.out rfl HE.out (by rfl) (by rfl) hRow' HD2.out hn ?_; intro wF hF bF))
      all_goals
        go_wp2
        go_end0
        refine ⟨⟨_, rfl⟩, _, (bF.block gp (by omega)).trans hg1, ?_, hb1.trans (below_undrew (bF.mono (show gp ≤ gp + 1 by omega)))⟩
        rw [← hP.out]; exact hF
end Go.Proofs.Ytcembocnkndlhaa
