/- Parts Rb, Wg, Wh, Rc, Laws, Wi, Wj, Wk, Wl, Ub, Uc, Ud, Ue, Va, Tail: words, walks and laws that the claims of this seat share. -/
import Derived.Test.YtcembocnkndlhaaJ1
import Derived.Deep.LoopGhost
import Derived.Deep.RegionHeld3
import Derived.Deep.CutRange
import Derived.RangeFuncNested
import Derived.RangeFuncBound
import Derived.RangeFuncCalls
import Derived.RangeFuncLeaves
import Derived.RangeFuncBox
import Derived.Shelf.Abstract
import Derived.Shelf.RegionOpen
import Derived.OwnWalkIn
import Derived.TacticsInMore
import Derived.LoopNIn
import Derived.LoopIn
import Derived.OrdersHeld
/- The reference's walks: pages, execute. -/
namespace Go.Proofs.Ytcembocnkndlhaa
open Go.RowKit
theorem run_bytes0 {w : World} {g0 : Nat} {x : Value} {l : List UInt8} {ty : TypeId} (hblk : w.heap[g0]? = some (.cells #[] 5 (0, 0))) (hx : IsBytes w x l) (hl : l.length ≤ 100000000) :
    ∃ g cap w', (Builtin.append_ #[26, 26] ty #[.slice (some ⟨g0, 0, none⟩) 0 0, x]).run Try.prog w = .ok (.slice (some ⟨g, 0, none⟩) l.length cap) w' ∧ OwnB w' g0 (.slice (some ⟨g, 0, none⟩) l.length cap) l ∧ Below g0 w w' := by
  obtain ⟨i0, hi, hz0, hz1, hz2⟩ := info_parts info5
  have h0 : w.ownsRow g0 5 1 (.slice (some ⟨g0, 0, none⟩) 0 0) 0 [] := ⟨rfl, .inr ⟨g0, 0, #[], rfl, Nat.le_refl _, hblk, Nat.le_refl _, by decide, rfl, rfl⟩⟩
  obtain ⟨v', w', hrun, h2, h3, h4⟩ := run_append_rows encB 26 ty g0 5 i0 (.int .u8 0) 1 1 Try.underlying26 hi hz0 hz1 hz2 rfl (by decide) _ 0 [] h0 x l hx (fun _ _ => rfl) (bytes_one l) (by unfold maxLen; omega) (by omega) (Nat.le_of_lt (block_lt hblk))
  have hO : OwnB w' g0 v' l := by
    refine ⟨?_, ?_⟩
    · rw [flat_bytes] at h2; simpa using h2
    · rintro rfl
      rcases h4 with h | h <;> cases h
  obtain ⟨g, cap, cur, rfl, k1, k2, _⟩ := id hO.form
  exact ⟨g, cap, w', hrun, hO, (Below.refl _ _).grown h3 (Nat.le_of_lt (block_lt hblk)) (own_from h0)⟩
theorem wpList_bytes0 {w : World} {ops : Array Oper} {rest : List Oper} {o : Oper} {a : Act} {Q : Exit → Act → World → Prop} (hgd : o.guard = none) (s y : Operand) (ho : o.op = .call { callee := .builtin .append, args := #[s, y], argTypes := #[26, 26] })
    {g0 : Nat} {x : Value} {l : List UInt8} (hs : a.eval s = .slice (some ⟨g0, 0, none⟩) 0 0) (hblk : w.heap[g0]? = some (.cells #[] 5 (0, 0))) (hy : a.eval y = x) (hx : IsBytes w x l) (hl : l.length ≤ 100000000)
    (h : ∀ g cap w', OwnB w' g0 (.slice (some ⟨g, 0, none⟩) l.length cap) l → Below g0 w w' → wpList Try.prog ops Q rest (a.put o.dst (.slice (some ⟨g, 0, none⟩) l.length cap)) w') : wpList Try.prog ops Q (o :: rest) a w :=
  wpList_plain hgd fun K hK => by
    obtain ⟨g, cap, w', hr, h2, h3⟩ := run_bytes0 (ty := o.type) hblk hx hl
    unfold Oper.wp execOp
    simp only [ho, resolve, invoke, builtin, Sem.run_bind, Sem.run_pure, Result.andThen_ok, List.map_toArray, List.map_cons, List.map_nil, hs, hy, hr]
    exact hK _ _ (h g cap w' h2 h3)
theorem OwnB.mono {w : World} {base base' : Nat} {u : Value} {l : List UInt8} (h : OwnB w base u l) (hb : base' ≤ base) : OwnB w base' u l := by
  refine ⟨⟨h.1.1, ?_⟩, h.2⟩
  rcases h.1.2 with h | ⟨g, cap, cur, e, a, b⟩
  · exact .inl h
  · exact .inr ⟨g, cap, cur, e, by omega, b⟩
theorem below_alloc_then {w w' : World} {o : Obj} (h : Below w.heap.size (w.alloc o) w') : Below w.heap.size w w' := ((Below.refl _ _).alloc (Nat.le_refl _) _).trans h
set_option maxHeartbeats 2000000 in
set_option maxRecDepth 100000 in
theorem rpages_any (v : Value) (L : List (List UInt8)) (w : World) (h : IsPages w v L) (hl : L.length ≤ 1000) (hl2 : Hid (∀ p ∈ L, p.length ≤ 1000000)) :
    Calls Try.prog 60 #[v] w fun e w' => ∃ u, e = .returned u ∧ OwnR w' w.heap.size u L ∧ Below w.heap.size w w' := by
  have h0 := h
  obtain ⟨a, c, rfl, hm⟩ := h.shape
  go_enter Try.func60, Try.ntmps60
  go_wp2
  go_loopw [3, 4] (fun vo i wr => ∃ k : Nat, k ≤ L.length ∧ i = .int .i64 k ∧ OwnR wr w.heap.size vo (L.take k) ∧ Below w.heap.size w wr) (fun _ i _ => L.length - (intOf i).toNat)
  case atStart => exact ⟨0, Nat.zero_le _, rfl, OwnR.nil _ _, Below.refl _ _⟩
  case round =>
    obtain ⟨k, hk, rfl, hO, hb⟩ := hrel
    by_cases hlt : k < L.length
    · obtain ⟨wo, rfl⟩ : ∃ wo : World, wo = wr := ⟨_, rfl⟩
      obtain ⟨b, off, pa, pc, rfl, hc, hp⟩ := (h0.keep hb).at_ (List.getElem?_eq_getElem hlt)
      have hp2 : L[k].length ≤ 100000000 := by have := hl2.out L[k] (List.getElem_mem hlt); omega
      have HT := Lib.hid (List.take_succ_eq_append_getElem hlt)
      have hLk : (L.take k).length ≤ 1000 := by rw [List.length_take]; omega
      generalize L[k] = l at *
      generalize L.take k = M at *
      obtain ⟨va, vc, rfl, _⟩ := hO.len
      have b1 := below_new wo (.cells #[] 5)
      have hs := hb.size
      have hc' := cell_keep b1 hc
      go_wp2_with (first
        | (at_builtin; refine wpList_bytes0 rfl (.tmp 12) (.tmp 16) rfl (g0 := wo.heap.size) rfl (heap_alloc_new wo _) rfl (hp.keep b1) hp2 ?_; intro g cap w2 hB2 b2)
        | (at_builtin; refine wpList_pushR (wr := wo) rfl (.tmp 11) (.tmp 18) 22 rfl Try.underlying22 rfl rfl hO (below_alloc' (below_alloc_then b2)) (OwnB.keep hB2 (below_new _ _)) hs (heap_alloc_new w2 _) hLk ?_; intro g' cap' w3 hO3 b3 _))
      go_roundw
      case rel => exact ⟨k + 1, by omega, by go_num, by rw [HT.out]; exact hO3, hb.trans b3⟩
      case measure => simp [intOf]; omega
    · have e : k = L.length := by omega
      subst e
      rw [List.take_length] at hO
      go_wp2
      go_ret
      exact ⟨_, rfl, hO, hb⟩
end Go.Proofs.Ytcembocnkndlhaa
/- The walks of spin and of the plate's write. -/
namespace Go.Proofs.Ytcembocnkndlhaa
open Go.RowKit
def Spun (L : List (List UInt8)) (w : World) (e : Ending) (w' : World) : Prop :=
  ∃ gp pv, e = .returned (.pointer (some ⟨gp, 0, none⟩)) ∧ w.heap.size ≤ gp ∧ w'.heap[gp]? = some (.cells #[pv] 77 (0, 0)) ∧ OwnPages w' (gp + 1) pv L ∧ Below w.heap.size w w'
set_option maxHeartbeats 2000000 in
set_option maxRecDepth 100000 in
theorem spin_any (v : Value) (d : Dk) (w : World) (h : IsDisk w v d) (hl : d.pages.length ≤ 400) :
    Calls Try.prog 61 #[v] w (Spun (d.pages.map full) w) := by
  obtain ⟨pa, pc, wa, wc, rfl, hp, hw, m1, m2⟩ := h.shape
  obtain ⟨ps, ws, dn⟩ := d
  dsimp only at *
  obtain ⟨C, hC⟩ : ∃ C, C = Obj.cells #[.slice pa ps.length pc, .slice wa ws.length wc, .bool dn] 25 := ⟨_, rfl⟩
  obtain ⟨P, hP⟩ : ∃ P, P = Obj.cells #[.slice none 0 0] 77 := ⟨_, rfl⟩
  obtain ⟨wb, hwb⟩ : ∃ x : World, x = (w.alloc C).alloc P := ⟨_, rfl⟩
  have b0 : Below w.heap.size w wb := by subst hwb; exact below_trans (below_new _ _) (below_new _ _)
  have g1 : wb.heap[w.heap.size + 1]? = some (.cells #[.slice none 0 0] 77 (0, 0)) := by
    subst hwb hP
    have := heap_alloc_new (w.alloc C) (.cells #[.slice none 0 0] 77)
    simpa using this
  have hsb : wb.heap.size = w.heap.size + 1 + 1 := by subst hwb; simp
  go_enter Try.func61, Try.ntmps61
  go_wp2
  rw [← hC, ← hP, ← hwb]
  clear hC hP hwb
  go_loopw [5, 11] (fun _ i wr => ∃ (k : Nat) (pv : Value), k ≤ ps.length ∧ i = .int .i64 k ∧ wr.heap[w.heap.size + 1]? = some (.cells #[pv] 77 (0, 0)) ∧ OwnPages wr (w.heap.size + 1 + 1) pv ((ps.take k).map full) ∧ Below w.heap.size w wr ∧ w.heap.size + 1 + 1 ≤ wr.heap.size) (fun _ i _ => ps.length - (intOf i).toNat)
  case atStart => exact ⟨0, _, Nat.zero_le _, rfl, g1, OwnPages.nil _ _, b0, by omega⟩
  case round =>
    obtain ⟨k, pv, hk, rfl, hg, hO, hb, hs⟩ := hrel
    by_cases hlt : k < ps.length
    · obtain ⟨wo, rfl⟩ : ∃ wo : World, wo = wr := ⟨_, rfl⟩
      obtain ⟨b, off, qa, qc, rfl, hc, hB⟩ := (hp.keep hb).at_ (List.getElem?_eq_getElem hlt)
      have HT := Lib.hid (List.take_succ_eq_append_getElem hlt)
      generalize ps[k] = l at *
      obtain ⟨Lk, hLk⟩ : ∃ Lk, (ps.take k).map full = Lk := ⟨_, rfl⟩
      have HLk := Lib.hid hLk
      have hLe : Lk.length ≤ 1000 := by rw [← hLk]; simp; omega
      rw [hLk] at hO
      clear hLk
      obtain ⟨va, vc, rfl⟩ := hO.len
      have hcg : wo.cell? ⟨w.heap.size + 1, 0, none⟩ = some (.slice va Lk.length vc) := cell_at (j := 0) hg rfl
      have hfg : wo.frozen? ⟨w.heap.size + 1, 0, none⟩ = false := free_at (j := 0) hg
      have HB := fun (W : World) (hW : Below wo.heap.size wo W) => hB.keep hW
      have HS : ∀ W, Below wo.heap.size wo W → W.cell? ⟨w.heap.size + 1, 0, none⟩ = some (.slice va Lk.length vc) := fun W hW => cell_keep hW hcg
      have HS2 : ∀ W, Below (w.heap.size + 1 + 1) wo W → W.cell? ⟨w.heap.size + 1, 0, none⟩ = some (.slice va Lk.length vc) := fun W hW => (hW.cell (p := ⟨w.heap.size + 1, 0, none⟩) (by simp)).trans hcg
      have HF : ∀ W, Below (w.heap.size + 1 + 1) wo W → W.frozen? ⟨w.heap.size + 1, 0, none⟩ = false := fun W hW => (hW.frozen (p := ⟨w.heap.size + 1, 0, none⟩) (by simp)).trans hfg
      go_wp2
      go_region_law
        (first
          | (go_simp; go_at_call 58; refine full_ts (HB _ (by with_reducible (repeat (first | assumption | exact Below.refl _ _ | refine below_alloc' ?_ | refine below_drew' ?_ | refine below_step (by assumption) ?_)))) ?_; intro q wF hF bF; have hF : OwnPage wF wo.heap.size (pageV q) (full l) := hF; have bF : Below wo.heap.size wo wF := below_undrew bF; have cF := HS wF bF; have cG := HS (wF.alloc (.cells #[.slice (some ⟨q, 0, none⟩) 64 64] 26)) (below_alloc' bF))
          | (have tF := hF; refine step_push (wr := wo) (q := q) (g1 := wF.heap.size) (l := full l) (bt := 26) rfl (.tmp 19) (.tmp 22) 75 (by rfl) Try.underlying75 (by rfl) (by rfl) hO (by with_reducible (repeat (first | assumption | exact Below.refl _ _ | refine below_alloc' ?_ | refine below_drew' ?_ | refine below_step (by assumption) ?_))) (by with_reducible (repeat (first | exact hF | apply OwnPage.alloc | apply OwnPage.drew))) hs (by exact heap_alloc_new wF _) hLe ?_; intro g cap wP hP bP _ _; have cP := HS2 _ bP; have fP := HF _ bP) | fail)
      all_goals
        go_wp2
        go_roundw
        case rel =>
          have hgP : wP.heap[w.heap.size + 1]? = some (.cells #[.slice va Lk.length vc] 77 (0, 0)) := (bP.block _ (by omega)).trans hg
          refine ⟨k + 1, _, by omega, by go_num, box1_set hgP, ?_, (hb.trans (bP.mono (by omega))).setCell (p := ⟨w.heap.size + 1, 0, none⟩) (by simp) _, ?_⟩
          · rw [HT.out, List.map_append, HLk.out]
            exact hP.store (p := ⟨w.heap.size + 1, 0, none⟩) (by simp) _
          · have := bP.size; simp [World.setCell]; omega
        case measure => simp [intOf]; omega
    · have e : k = ps.length := by omega
      subst e
      rw [List.take_length] at hO
      go_wp2
      go_ret
      exact ⟨_, _, rfl, by omega, hg, hO, hb⟩
end Go.Proofs.Ytcembocnkndlhaa
/- The walk of the plate's write. -/
namespace Go.Proofs.Ytcembocnkndlhaa
open Go.RowKit
def Wrote (gp : Nat) (L : List (List UInt8)) (w : World) (e : Ending) (w' : World) : Prop :=
  (∃ v, e = .returned v) ∧ ∃ pv, w'.heap[gp]? = some (.cells #[pv] 77 (0, 0)) ∧ OwnPages w' (gp + 1) pv L ∧ Below gp w w'
theorem set_modify {α : Type} {L : List α} {k : Nat} (f : α → α) (h : k < L.length) : L.set k (f L[k]) = L.modify k f := by
  apply List.ext_getElem?
  intro i
  rw [List.getElem?_set, List.getElem?_modify]
  by_cases e : k = i
  · subst e; simp [h]
  · simp [e]
theorem bytes_rows {w : World} {a : Option Addr} {c : Nat} {data : List UInt8} {m : Nat} (h : IsBytes w (.slice a m c) data) (n : Nat) : RowsAt 1 encB w a (data.take n) := by
  obtain ⟨a', c', e, hr, _⟩ := h
  rw [Value.slice.injEq] at e
  obtain ⟨rfl, -, -⟩ := e
  rcases hr with rfl | ⟨b, off, e, hc⟩
  · exact .inl (by simp)
  · refine .inr ⟨b, off, e, fun i x hx j u hj => ?_⟩
    rw [List.getElem?_take] at hx
    split at hx
    · exact hc i x hx j u hj
    · cases hx
theorem rep_snoc (L : List (List UInt8)) (m : Nat) (p : List UInt8) : L ++ List.replicate m p ++ [p] = L ++ List.replicate (m + 1) p := by
  rw [List.append_assoc, List.replicate_succ']
theorem box2 {w w' : World} {cs : Array Value} {t : TypeId} (hb : Below (w.alloc (.cells cs t)).heap.size (w.alloc (.cells cs t)) w') {j : Nat} {v : Value} (hv : cs[j]? = some v) : w'.cell? ⟨w.heap.size, j, none⟩ = some v := boxed hv hb
set_option maxHeartbeats 2000000 in
set_option maxRecDepth 100000 in
theorem plate_any (gp : Nat) (pv : Value) (L : List (List UInt8)) (k : Nat) (dv : Value) (data : List UInt8) (n : Nat) (w : World) (hg : w.heap[gp]? = some (.cells #[pv] 77 (0, 0))) (hO : OwnPages w (gp + 1) pv L) (hd : ∀ W, Below gp w W → IsBytes W dv data) (hdl : data.length = 64) (hk : k < 400) (hn : n ≤ 64) :
    Calls Try.prog 62 #[.pointer (some ⟨gp, 0, none⟩), .agg #[.int .i64 k, dv], .int .i64 n] w (Wrote gp (put L k data n) w) := by
  have hd0 := hd w (Below.refl _ _)
  obtain ⟨da, dc, rfl, hdr, hdm⟩ := hd0
  obtain ⟨sb, so, rfl⟩ : ∃ sb so, da = some ⟨sb, so, none⟩ := by
    rcases hdr with h | ⟨sb, so, h, _⟩
    · rw [h] at hdl; simp at hdl
    · exact ⟨sb, so, h⟩
  clear hdr
  have HDL := Lib.hid hdl
  rw [hdl] at hdm hd ⊢
  clear hdl
  obtain ⟨C, hC⟩ : ∃ C, C = Obj.cells #[.int .i64 k, .slice (some ⟨sb, so, none⟩) 64 dc] 49 := ⟨_, rfl⟩
  have b0 := below_new w C
  have g0 := block_keep hg b0
  have hgp : gp < w.heap.size := block_lt hg
  have hO0 := hO.keep b0
  have hsz : (w.alloc C).heap.size = w.heap.size + 1 := by simp
  have y0 : ∀ W, Below (w.alloc C).heap.size (w.alloc C) W → W.cell? ⟨w.heap.size, 0, none⟩ = some (.int .i64 k) := fun W hW => by subst hC; exact boxed rfl hW
  have y1 : ∀ W, Below (w.alloc C).heap.size (w.alloc C) W → W.cell? ⟨w.heap.size, 1, none⟩ = some (.slice (some ⟨sb, so, none⟩) 64 dc) := fun W hW => by subst hC; exact boxed rfl hW
  go_enter Try.func62, Try.ntmps62
  go_wp2
  rw [← hC]
  have hvb : ∀ j, pv.ownBlock = some j → j ≠ w.heap.size := fun j hj e => by
    obtain ⟨gs, h1, _⟩ := hO
    have := (h1.lt j hj).2; omega
  go_loopg [] (k + 1 - L.length) (fun g wr => ∃ (pv : Value) (m : Nat), m + g = k + 1 - L.length ∧ wr.heap[gp]? = some (.cells #[pv] 77 (0, 0)) ∧ OwnPages wr (gp + 1) pv (L ++ List.replicate m (full [])) ∧ wr.cell? ⟨w.heap.size, 0, none⟩ = some (.int .i64 k) ∧ wr.cell? ⟨w.heap.size, 1, none⟩ = some (.slice (some ⟨sb, so, none⟩) 64 dc) ∧ Below gp w wr ∧ w.heap.size + 1 ≤ wr.heap.size ∧ Hid (pv.ownBlock ≠ some w.heap.size))
  case atStart => exact ⟨pv, 0, by omega, g0, by simpa using hO0, y0 _ (Below.refl _ _), y1 _ (Below.refl _ _), b0.mono (by omega), by omega, Lib.hid fun e => hvb _ e rfl⟩
  case round =>
    obtain ⟨pv', m, hm, hgr, hOr, z0, z1, hb, hs, hne⟩ := hrel
    obtain ⟨wo, rfl⟩ : ∃ wo : World, wo = wr := ⟨_, rfl⟩
    obtain ⟨M, hM⟩ : ∃ M, L ++ List.replicate m (full []) = M := ⟨_, rfl⟩
    have hMl : M.length = L.length + m := by rw [← hM]; simp
    have HM := Lib.hid hM
    rw [hM] at hOr
    clear hM hO hO0 hg g0 y0 y1
    obtain ⟨va, vc, rfl⟩ := hOr.len
    have hcg : wo.cell? ⟨gp, 0, none⟩ = some (.slice va M.length vc) := cell_at (j := 0) hgr rfl
    have hfg : wo.frozen? ⟨gp, 0, none⟩ = false := free_at (j := 0) hgr
    have HM2 := Lib.hid hMl
    by_cases hle : M.length ≤ k
    · have hd : decide ((M.length : Int) ≤ (k : Int)) = true := decide_eq_true (by omega)
      have hL1 : M.length ≤ 1000 := by omega
      clear hMl
      go_wp2
      go_quiet (fail)
      go_wp2
      have b1 : Below wo.heap.size wo (wo.drewN nq) := below_drewN (Below.refl _ _) nq
      have hO1 := hOr.keep b1
      have hg1 := block_keep hgr b1
      have z0' := cell_keep b1 z0
      have z1' := cell_keep b1 z1
      have hs1 := Nat.le_trans hs b1.size
      have hb1 := hb.trans (b1.mono (show gp ≤ wo.heap.size by omega))
      generalize wo.drewN nq = w1 at *
      clear hOr hgr z0 z1 hs hb b1 hcg hfg
      have hcg : w1.cell? ⟨gp, 0, none⟩ = some (.slice va M.length vc) := cell_at (j := 0) hg1 rfl
      have hfg : w1.frozen? ⟨gp, 0, none⟩ = false := free_at (j := 0) hg1
      have HS : ∀ W, Below w1.heap.size w1 W → W.cell? ⟨gp, 0, none⟩ = some (.slice va M.length vc) := fun W hW => cell_keep hW hcg
      have HS2 : ∀ W, Below (gp + 1) w1 W → W.cell? ⟨gp, 0, none⟩ = some (.slice va M.length vc) := fun W hW => (hW.cell (p := ⟨gp, 0, none⟩) (by simp)).trans hcg
      have HF : ∀ W, Below (gp + 1) w1 W → W.frozen? ⟨gp, 0, none⟩ = false := fun W hW => (hW.frozen (p := ⟨gp, 0, none⟩) (by simp)).trans hfg
      have hbs : gp + 1 ≤ w1.heap.size := by omega
      go_region_law
        (first
          | (go_simp; go_at_call 58; refine full_ts (IsBytes.nil _) ?_; intro q wF hF bF; have hF : OwnPage wF w1.heap.size (pageV q) (full []) := hF; have bF : Below w1.heap.size w1 wF := below_undrew bF; have cF := HS wF bF; have cG := HS (wF.alloc (.cells #[.slice (some ⟨q, 0, none⟩) 64 64] 26)) (below_alloc' bF))
          | (have tF := hF; refine step_push (wr := w1) (q := q) (g1 := wF.heap.size) (l := full []) (bt := 26) rfl (.tmp 18) (.tmp 20) 75 (by rfl) Try.underlying75 (by rfl) (by rfl) hO1 (by with_reducible (repeat (first | assumption | exact Below.refl _ _ | refine below_alloc' ?_ | refine below_drew' ?_ | refine below_step (by assumption) ?_))) (by with_reducible (repeat (first | exact hF | apply OwnPage.alloc | apply OwnPage.drew))) hbs (by exact heap_alloc_new wF _) hL1 ?_; intro g cap wP hP bP gP aP; have cP := HS2 _ bP; have fP := HF _ bP) | fail)
      all_goals
        go_wp2
        go_roundg (gk - 1)
        case measure => have := HM2.out; omega
        case rel =>
          have hgP : wP.heap[gp]? = some (.cells #[.slice va M.length vc] 77 (0, 0)) := (bP.block _ (by omega)).trans hg1
          have hne' := hne.out
          have hcc : ∀ (j : Nat) (x : Value), w1.cell? ⟨w.heap.size, j, none⟩ = some x → (wP.setCell ⟨gp, 0, none⟩ (.slice (some ⟨g, 0, none⟩) (M.length + 1) cap)).cell? ⟨w.heap.size, j, none⟩ = some x := fun j x hx =>
            (World.cell?_of_block (w := wP) (Below.heap_setCell _ _ _ _ (by simp; omega))).trans (gP.cell hx fun e => hne' e.symm)
          refine ⟨_, m + 1, by have := HM2.out; omega, box1_set hgP, ?_, ?_, ?_, (hb1.trans (bP.mono (by omega))).setCell (p := ⟨gp, 0, none⟩) (by simp) _, ?_, ?_⟩
          · rw [← rep_snoc, HM.out]
            exact hP.store (p := ⟨gp, 0, none⟩) (by simp) _
          · exact hcc _ _ z0'
          · exact hcc _ _ z1'
          · have := bP.size; simp [World.setCell]; omega
          · refine Lib.hid fun e => ?_
            rcases aP with h | h
            · rw [h] at hne'; exact hne' (by simpa [Value.ownBlock] using e)
            · have : g = w.heap.size := by simpa [Value.ownBlock] using e
              omega
    · have hdd : decide ((M.length : Int) ≤ (k : Int)) = false := decide_eq_false (by omega)
      have hkM : k < M.length := by omega
      obtain ⟨pb, pc, g, e1, e2, e3, e4, e5, e6, e7, e8⟩ := hOr.open_ (List.getElem?_eq_getElem hkM)
      rw [Value.slice.injEq] at e1
      obtain ⟨rfl, -, rfl⟩ := e1
      have e9 : wo.cell? ⟨pb, k, none⟩ = some (.slice (some ⟨g, 0, none⟩) 64 64) := by rw [Nat.zero_add] at e3; exact e3
      have hkI : (k : Int) < (M.length : Int) := by omega
      have hkI0 : (0 : Int) ≤ (k : Int) := by omega
      have hnI : (n : Int) ≤ (dc : Int) := by omega
      have hnI0 : (0 : Int) ≤ (n : Int) := by omega
      have hP := Lib.hid (show M.set k (over data M[k] n) = put L k data n by
        have h1 : M = grow L (k + 1) := by
          rw [← HM.out]
          unfold grow
          congr 2
          omega
        subst h1
        unfold put
        exact set_modify (fun p => over data p n) hkM)
      have hRow := bytes_rows (hd wo hb) n
      have HD2 := Lib.hid (show n ≤ data.length by rw [HDL.out]; exact hn)
      have HK := Lib.hid (show M[k]? = some M[k] from List.getElem?_eq_getElem hkM)
      generalize M[k] = ml at *
      clear hMl e3 e8 hle e7 hd hkM
      go_wp2
      go_quiet (fail)
      go_wp2
      have b1 : Below wo.heap.size wo (wo.drewN nq) := below_drewN (Below.refl _ _) nq
      have hO1 := hOr.keep b1
      have hg1 := block_keep hgr b1
      have z0' := cell_keep b1 z0
      have z1' := cell_keep b1 z1
      have e9' := cell_keep b1 e9
      have hcg' := cell_keep b1 hcg
      have hRow' := hRow.keep (keeps_below b1)
      have hs1 := Nat.le_trans hs b1.size
      have hb1 := hb.trans (b1.mono (show gp ≤ wo.heap.size by omega))
      generalize wo.drewN nq = w1 at *
      clear hOr hgr z0 z1 hs hb b1 hcg hfg e9 e6 hRow hvb
      have HE := Lib.hid (show w1.cell? ⟨pb, 0 + k, none⟩ = some (pageV g) by rw [Nat.zero_add]; exact e9')
      go_region_law ((refine step_copy_page (v := .slice (some ⟨pb, 0, none⟩) M.length vc) rfl (.tmp 31) (.tmp 35) (by rfl) hO1 HK.out rfl HE.out (by rfl) (by rfl) hRow' HD2.out hn ?_; intro wF hF bF))
      all_goals
        go_wp2
        go_end0
        refine ⟨⟨_, rfl⟩, _, (bF.block gp (by omega)).trans hg1, ?_, hb1.trans (below_undrew (bF.mono (show gp ≤ gp + 1 by omega)))⟩
        rw [← hP.out]; exact hF
end Go.Proofs.Ytcembocnkndlhaa
/- The reference's walk: execute. -/
namespace Go.Proofs.Ytcembocnkndlhaa
open Go.RowKit
theorem rFull_ts {v : Value} {l : List UInt8} {w : World} {Q : Ending → World → Prop} (h : IsBytes w v l) (hl : l.length ≤ 100000) (k : ∀ g c w', OwnB w' w.heap.size (.slice (some ⟨g, 0, none⟩) (rfull l).length c) (rfull l) → Below w.heap.size w w' → Q (.returned (.slice (some ⟨g, 0, none⟩) (rfull l).length c)) w') : Calls Try.prog 35 #[v] w Q :=
  (rFull_any v l w h hl).mono fun e w' ⟨u, he, hu, hb⟩ => by
    subst he
    obtain ⟨g, c, cur, rfl, _⟩ := id hu.form
    exact k g c w' hu hb
theorem over_step {data l : List UInt8} {j : Nat} (hd : data.length = 64) (hl : l.length = 64) (hj : j < 64) : (over data l j).set j (data[j]'(by omega)) = over data l (j + 1) := by
  unfold over
  rw [List.set_append_right _ _ (by rw [List.length_take]; omega), List.length_take, show j - min j data.length = 0 by omega, List.drop_eq_getElem_cons (by omega : j < l.length), List.set_cons_zero, List.take_succ_eq_append_getElem (by omega : j < data.length), List.append_assoc]
  rfl
set_option maxHeartbeats 4000000 in
set_option maxRecDepth 100000 in
theorem rexec_any (v : Value) (base : Nat) (L : List (List UInt8)) (k : Nat) (dv : Value) (data : List UInt8) (n : Int) (w : World) (hO : OwnR w base v L) (hbase : base ≤ w.heap.size) (hd : ∀ W, Below base w W → IsBytes W dv data) (hdl : data.length = 64) (hk : k < 400) (hwd : Hid (Wide L)) :
    Calls Try.prog 63 #[v, .agg #[.int .i64 k, dv], .int .i64 n] w fun e w' => ∃ u, e = .returned u ∧ OwnR w' base u (put L k data (max 0 (min n 64)).toNat) ∧ Below base w w' := by
  have hd0 := hd w (Below.refl _ _)
  obtain ⟨da, dc, rfl, hdr, hdm⟩ := hd0
  clear hdr
  have HDL := Lib.hid hdl
  rw [hdl] at hdm hd ⊢
  clear hdl
  obtain ⟨va0, vc0, rfl, -⟩ := hO.len
  have g0 := heap_alloc_new w (.cells #[.int .i64 k, .slice da 64 dc] 49)
  have b0 := below_new w (.cells #[.int .i64 k, .slice da 64 dc] 49)
  have hO0 := hO.keep b0
  have hsz : w.heap.size + 1 ≤ (w.alloc (.cells #[.int .i64 k, .slice da 64 dc] 49)).heap.size := by simp
  go_enter Try.func63, Try.ntmps63
  go_wp2
  go_loopg [0] (k + 1 - L.length) (fun g vo wr => ∃ m : Nat, m + g = k + 1 - L.length ∧ OwnR wr base vo (L ++ List.replicate m (full [])) ∧ wr.heap[w.heap.size]? = some (.cells #[.int .i64 k, .slice da 64 dc] 49 (0, 0)) ∧ Below base w wr ∧ w.heap.size + 1 ≤ wr.heap.size)
  case atStart => exact ⟨0, by omega, by simpa using hO0, g0, b0.mono hbase, hsz⟩
  case round =>
    obtain ⟨m, hm, hOr, hg, hb, hs⟩ := hrel
    obtain ⟨wo, rfl⟩ : ∃ wo : World, wo = wr := ⟨_, rfl⟩
    obtain ⟨M, hM⟩ : ∃ M, L ++ List.replicate m (full []) = M := ⟨_, rfl⟩
    have hMl : M.length = L.length + m := by rw [← hM]; simp
    have HM := Lib.hid hM
    rw [hM] at hOr
    clear hM hO hO0 g0
    obtain ⟨va, vc, rfl, hvc⟩ := hOr.len
    have z0 : wo.cell? ⟨w.heap.size, 0, none⟩ = some (.int .i64 k) := cell_at hg rfl
    have z1 : wo.cell? ⟨w.heap.size, 1, none⟩ = some (.slice da 64 dc) := cell_at hg rfl
    have HM2 := Lib.hid hMl
    by_cases hle : M.length ≤ k
    · have hdd : decide (M.length ≤ k) = true := decide_eq_true hle
      have hL1 : M.length ≤ 1000 := by have := HM2.out; omega
      have hbs : base ≤ wo.heap.size := by omega
      clear hMl
      go_wp2_with fail
      refine rFull_ts (IsBytes.nil _) (by simp) ?_
      intro g c w2 hB2 b2
      go_wp2_with (at_builtin; refine wpList_pushR (wr := wo) rfl (.tmp 13) (.tmp 15) 22 rfl Try.underlying22 rfl rfl hOr (below_alloc' b2) (OwnB.keep hB2 (below_new _ _)) hbs (heap_alloc_new w2 _) hL1 ?_; intro g' cap' w3 hO3 b3 g3)
      go_roundg (gk - 1)
      case measure => have := HM2.out; omega
      case rel =>
        refine ⟨m + 1, by have := HM2.out; omega, ?_, (g3.block _ (by omega) (hOr.row_ne hg (by decide))).trans hg, hb.trans b3, by have := g3.size; omega⟩
        rw [← rep_snoc, HM.out, show full [] = rfull [] from full_rfull (by simp)]
        exact hO3
    · have hdd : decide (M.length ≤ k) = false := decide_eq_false hle
      have hkM : k < M.length := by omega
      have hlM : M[k].length = 64 := by
        have : ∀ p ∈ M, p.length = 64 := by
          rw [← HM.out]
          intro p hp
          rcases List.mem_append.1 hp with hp | hp
          · exact hwd.out p hp
          · rw [List.eq_of_mem_replicate hp]; exact length_full _
        exact this _ (List.getElem_mem hkM)
      have hP : ∀ j, Hid (M.set k (over data M[k] j) = put L k data j) := fun j => Lib.hid (by
        have h1 : M = grow L (k + 1) := by
          rw [← HM.out]
          unfold grow
          congr 2
          omega
        subst h1
        unfold put
        exact set_modify (fun p => over data p j) hkM)
      have HLM := Lib.hid hlM
      have HK := Lib.hid (show M[k]? = some M[k] from List.getElem?_eq_getElem hkM)
      have hstart : Hid (M.set k (over data M[k] 0) = M) := Lib.hid (by rw [over_none, List.set_getElem_self])
      generalize M[k] = ml at *
      have hkI : (k : Int) < (M.length : Int) := by omega
      clear hMl hle hlM hwd
      go_wp2
      go_loopw [7] (fun i wr => ∃ j : Nat, (j : Int) ≤ max 0 (min n 64) ∧ i = .int .i64 j ∧ OwnR wr base (.slice va M.length vc) (M.set k (over data ml j)) ∧ wr.heap[w.heap.size]? = some (.cells #[.int .i64 k, .slice da 64 dc] 49 (0, 0)) ∧ Below base w wr) (fun i _ => 64 - (intOf i).toNat)
      case atStart => exact ⟨0, by omega, rfl, by rw [hstart.out]; exact hOr, hg, hb⟩
      case round =>
        obtain ⟨j, hj, rfl, hOr2, hg2, hb2⟩ := hrel
        obtain ⟨w2, rfl⟩ : ∃ w2 : World, w2 = wr := ⟨_, rfl⟩
        by_cases hin : (j : Int) < n ∧ (j : Int) < 64
        · obtain ⟨hn1, hn2⟩ := hin
          have hd1 : decide ((j : Int) < n) = true := decide_eq_true hn1
          have hd2 : decide ((j : Int) < 64) = true := decide_eq_true hn2
          have hj64 : j < 64 := by omega
          have HK2 : (M.set k (over data ml j))[k]? = some (over data ml j) := by
            rw [List.getElem?_set]; simp [(List.getElem?_eq_some_iff.1 HK.out).1]
          have hol : (over data ml j).length = 64 := length_over HDL.out HLM.out (by omega)
          obtain ⟨pb, pc, g, gc, e1, e2, e3, e4, e5, e6, e7, ⟨cur, e8, e10⟩, e9⟩ := hOr2.open_ HK2
          rw [Value.slice.injEq] at e1
          obtain ⟨rfl, -, rfl⟩ := e1
          have hbg : w.heap.size ≠ g := fun e => by
            rw [e] at hg2
            rw [hg2] at e8
            simp at e8
          have hB := hd w2 hb2
          obtain ⟨b1, o1, hda, hc1⟩ := (by
            obtain ⟨a', c', e', hr', _⟩ := hB
            rw [Value.slice.injEq] at e'
            obtain ⟨rfl, -, -⟩ := e'
            exact hr'.one (List.getElem?_eq_getElem (by rw [HDL.out]; exact hj64)) rfl : ∃ b off, da = some ⟨b, off, none⟩ ∧ w2.cell? ⟨b, off + j, none⟩ = some (.int .u8 (data[j]'(by rw [HDL.out]; exact hj64)).toNat))
          subst hda
          have hc1' : ∀ u, (w2.setCell ⟨g, j, none⟩ u).cell? ⟨b1, o1 + j, none⟩ = some (.int .u8 (data[j]'(by rw [HDL.out]; exact hj64)).toNat) := fun u => by
            obtain ⟨a', c', e', hr', _⟩ := hd (w2.setCell ⟨g, j, none⟩ u) (hb2.setCell (p := ⟨g, j, none⟩) e4 u)
            rw [Value.slice.injEq] at e'
            obtain ⟨rfl, -, -⟩ := e'
            obtain ⟨b2, o2, e2', c2⟩ := hr'.one (List.getElem?_eq_getElem (by rw [HDL.out]; exact hj64)) rfl
            simp only [Option.some.injEq, Addr.mk.injEq] at e2'
            obtain ⟨rfl, rfl, -⟩ := e2'
            exact c2
          have HO := e9 j (data[j]'(by rw [HDL.out]; exact hj64)) (by omega)
          rw [List.set_set, over_step HDL.out HLM.out hj64] at HO
          generalize data[j]'(by rw [HDL.out]; exact hj64) = bt at *
          clear e9 HK2
          rw [hol] at e3 e6
          have y0 : w2.cell? ⟨w.heap.size, 0, none⟩ = some (.int .i64 k) := cell_at hg2 rfl
          have y1 : w2.cell? ⟨w.heap.size, 1, none⟩ = some (.slice (some ⟨b1, o1, none⟩) 64 dc) := cell_at hg2 rfl
          have yg : ∃ x, w2.cell? ⟨g, j, none⟩ = some x := ⟨_, cell_at e8 (Array.getElem?_eq_getElem (by omega : j < cur.size))⟩
          obtain ⟨x, yg⟩ := yg
          have yf : w2.frozen? ⟨g, j, none⟩ = false := free_at e8
          have k0 : ∀ u, (w2.setCell ⟨g, j, none⟩ u).cell? ⟨w.heap.size, 0, none⟩ = some (.int .i64 k) := fun u => cell_other y0 hbg
          have k1 : ∀ u, (w2.setCell ⟨g, j, none⟩ u).cell? ⟨w.heap.size, 1, none⟩ = some (.slice (some ⟨b1, o1, none⟩) 64 dc) := fun u => cell_other y1 hbg
          have k2 : ∀ u, (w2.setCell ⟨g, j, none⟩ u).cell? ⟨pb, k, none⟩ = some (.slice (some ⟨g, 0, none⟩) 64 gc) := fun u => cell_other e3 e5
          have hI0 : (0 : Int) ≤ (j : Int) := by omega
          have hI1 : (0 : Int) ≤ (k : Int) := by omega
          have hblk := block_other (u := .int .u8 bt.toNat) (i := j) hg2 hbg
          clear hol hOr2 hOr e8 e10 hg2 hg
          go_wp2
          go_region_held3 (fun w' => w'.cell? ⟨w.heap.size, 0, none⟩ = some (.int .i64 k) ∧ w'.cell? ⟨w.heap.size, 1, none⟩ = some (.slice (some ⟨b1, o1, none⟩) 64 dc) ∧ w'.cell? ⟨pb, k, none⟩ = some (.slice (some ⟨g, 0, none⟩) 64 gc) ∧ w'.cell? ⟨b1, o1 + j, none⟩ = some (.int .u8 bt.toNat))
            (first | exact ⟨y0, y1, e3, hc1⟩ | exact ⟨k0 _, k1 _, k2 _, hc1' _⟩) (fail)
          all_goals
            go_wp2
            go_roundw
            case rel => exact ⟨j + 1, by omega, by go_num, HO, hblk, (hb2.setCell (p := ⟨g, j, none⟩) e4 _).drew⟩
            case measure => simp [intOf]; omega
        · have hjm : (j : Int) = max 0 (min n 64) := by omega
          have hjn : j = (max 0 (min n 64)).toNat := by omega
          have HJ := Lib.hid hjn
          by_cases h1 : (j : Int) < n
          · have hd1 : decide ((j : Int) < n) = true := decide_eq_true h1
            have hd2 : decide ((j : Int) < 64) = false := decide_eq_false (by omega)
            clear hjm hjn
            go_wp2
            go_ret
            rw [← HJ.out, ← (hP j).out]
            exact ⟨_, rfl, hOr2, hb2⟩
          · have hd1 : decide ((j : Int) < n) = false := decide_eq_false h1
            clear hjm hjn
            go_wp2
            go_ret
            rw [← HJ.out, ← (hP j).out]
            exact ⟨_, rfl, hOr2, hb2⟩
end Go.Proofs.Ytcembocnkndlhaa
/- The laws of layer 35 in plain Lean. -/
namespace Go.Proofs.Ytcembocnkndlhaa
theorem writeD_ok {d : Dk} {k : Int} {data : List UInt8} (hf : formed d = true) (hd : d.down = false) (h0 : 0 ≤ k) (h1 : k < 400) (hl : data.length ≤ 64) : writeD d k data = (⟨d.pages, d.writes ++ [⟨k, full data⟩], d.down⟩, 0) := by
  unfold writeD
  rw [if_neg (by omega), if_neg (by rw [failure_ok hf hd h0 h1]; simp)]
theorem formed_write {d : Dk} {k : Int} {data : List UInt8} (hf : formed d = true) (hd : d.down = false) (h0 : 0 ≤ k) (h1 : k < 400) : formed ⟨d.pages, d.writes ++ [⟨k, full data⟩], d.down⟩ = true := by
  rw [formed_iff] at hf ⊢
  obtain ⟨a, b, c, e⟩ := hf
  refine ⟨a, b, fun w hw => ?_, fun x => absurd x (by simp [hd])⟩
  rcases List.mem_append.1 hw with hw | hw
  · exact c w hw
  · obtain rfl : w = ⟨k, full data⟩ := by simpa using hw
    exact ⟨h0, h1, length_full _⟩
theorem readD_ok {d : Dk} {k : Int} (hf : formed d = true) (hd : d.down = false) (h0 : 0 ≤ k) (h1 : k < 400) : readD d k = (look d k, 0) := by
  unfold readD; rw [if_neg (by rw [failure_ok hf hd h0 h1]; simp)]
theorem length_look (d : Dk) (k : Int) : (look d k).length = 64 := by
  unfold look
  split
  · exact length_full _
  · split <;> exact length_full _
theorem syncD_ok {d : Dk} (hf : formed d = true) (hd : d.down = false) : syncD d = (⟨replay d.pages d.writes, [], false⟩, 0) := by
  unfold syncD; rw [if_neg (by rw [failure_ok hf hd (by omega) (by omega)]; simp)]
theorem look_eq {d : Dk} (hf : formed d = true) {k : Int} (h0 : 0 ≤ k) : look d k = pg (replay d.pages d.writes) k.toNat := by
  obtain ⟨a, b, c, e⟩ := (formed_iff d).1 hf
  exact look_replay d.pages d.down k h0 b d.writes fun w hw => ⟨(c w hw).1, (c w hw).2.2⟩
theorem length_replay {ws : List Wt} (h : ∀ w ∈ ws, 0 ≤ w.at_ ∧ w.at_ < 400) : ∀ {ps : List (List UInt8)}, ps.length ≤ 400 → (replay ps ws).length ≤ 400 := by
  induction ws with
  | nil => intro ps hp; exact hp
  | cons w r ih =>
    intro ps hp
    show (replay (put ps w.at_.toNat w.data 64) r).length ≤ 400
    refine ih (fun x hx => h x (by simp [hx])) ?_
    have := h w (by simp)
    rw [length_put]; omega
theorem wide_of_formed {d : Dk} (hf : formed d = true) (n : Nat) : Wide (replay d.pages (d.writes.take n)) ∧ (replay d.pages (d.writes.take n)).length ≤ 400 := by
  obtain ⟨a, b, c, e⟩ := (formed_iff d).1 hf
  exact ⟨wide_replay b fun w hw => (c w (List.mem_of_mem_take hw)).2.2, length_replay (fun w hw => ⟨(c w (List.mem_of_mem_take hw)).1, (c w (List.mem_of_mem_take hw)).2.1⟩) a⟩
theorem formed_pages {ps : List (List UInt8)} {dn : Bool} (h : Wide ps) (k : ps.length ≤ 400) : formed ⟨ps, [], dn⟩ = true :=
  (formed_iff _).2 ⟨k, h, by simp, fun _ => rfl⟩
theorem formed_sync {d : Dk} (hf : formed d = true) : formed ⟨replay d.pages d.writes, [], false⟩ = true := by
  have := wide_of_formed hf d.writes.length
  rw [List.take_length] at this
  exact formed_pages this.1 this.2
theorem look_sync {d : Dk} (hf : formed d = true) {k : Int} (h0 : 0 ≤ k) : look ⟨replay d.pages d.writes, [], false⟩ k = look d k := by
  rw [look_eq hf h0, look_eq (formed_sync hf) h0]; rfl
theorem kept_le (d : Dk) (keep : Int) : kept d keep ≤ d.writes.length := by unfold kept; omega
theorem crashD_dry {ps : List (List UInt8)} {dn : Bool} (hf : formed ⟨ps, [], dn⟩ = true) (keep torn : Int) : crashD ⟨ps, [], dn⟩ keep torn = ⟨ps, [], true⟩ := by
  unfold crashD; rw [if_pos hf]; simp [broken, replay]
theorem restartD_ok {d : Dk} (hf : formed d = true) : restartD d = ⟨d.pages, d.writes, false⟩ := by unfold restartD; rw [if_pos hf]
theorem crashD_ok {d : Dk} (hf : formed d = true) (keep torn : Int) : crashD d keep torn = ⟨broken d keep torn, [], true⟩ := by unfold crashD; rw [if_pos hf]
theorem broken_wide {d : Dk} (hf : formed d = true) (keep torn : Int) : Wide (broken d keep torn) ∧ (broken d keep torn).length ≤ 400 := by
  obtain ⟨h1, h2⟩ := wide_of_formed hf (kept d keep)
  obtain ⟨a, b, c, e⟩ := (formed_iff d).1 hf
  unfold broken
  split
  · rename_i w hw
    have := c w (List.mem_of_getElem? hw)
    split
    · exact ⟨wide_put h1 this.2.2 (by omega), by rw [length_put]; omega⟩
    · exact ⟨h1, h2⟩
  · exact ⟨h1, h2⟩
theorem formed_crash {d : Dk} (hf : formed d = true) (keep torn : Int) (dn : Bool) : formed ⟨broken d keep torn, [], dn⟩ = true :=
  formed_pages (broken_wide hf keep torn).1 (broken_wide hf keep torn).2
/-- The page that a crash tears. -/
theorem look_broken {d : Dk} (hf : formed d = true) (keep torn : Int) {k : Int} (h0 : 0 ≤ k) :
    look ⟨broken d keep torn, [], false⟩ k = match d.writes[kept d keep]? with
      | some w => if w.at_ = k then over w.data (look ⟨d.pages, d.writes.take (kept d keep), false⟩ k) (max 0 (min torn 64)).toNat else look ⟨d.pages, d.writes.take (kept d keep), false⟩ k
      | none => look ⟨d.pages, d.writes.take (kept d keep), false⟩ k := by
  obtain ⟨h1, h2⟩ := wide_of_formed hf (kept d keep)
  obtain ⟨a, b, c, e⟩ := (formed_iff d).1 hf
  rw [look_nil _ _ k h0 (broken_wide hf keep torn).1]
  rw [look_replay d.pages false k h0 b (d.writes.take (kept d keep)) fun w hw => ⟨(c w (List.mem_of_mem_take hw)).1, (c w (List.mem_of_mem_take hw)).2.2⟩]
  unfold broken
  cases hw : d.writes[kept d keep]? with
  | none => rfl
  | some w =>
    have := c w (List.mem_of_getElem? hw)
    dsimp only
    by_cases ht : torn > 0
    · rw [if_pos ht, pg_put]
      by_cases ek : w.at_ = k
      · subst ek
        rw [if_pos rfl, if_pos rfl]
        congr 1
        omega
      · rw [if_neg (by omega), if_neg ek]
    · rw [if_neg ht]
      split
      · rw [show (max 0 (min torn 64)).toNat = 0 by omega, over_none]
      · rfl
theorem broken_all {d : Dk} {keep torn : Int} (h : d.writes.length ≤ kept d keep) : broken d keep torn = replay d.pages d.writes := by
  unfold broken
  rw [List.getElem?_eq_none h, List.take_of_length_le h]
/-- Two writes of different pages in either order. -/
theorem put_comm {ps : List (List UInt8)} {i k : Nat} (h : i ≠ k) (x y : List UInt8) (n m : Nat) : put (put ps i x n) k y m = put (put ps k y m) i x n := by
  apply pages_ext
  · simp only [length_put]; omega
  · intro j
    simp only [pg_put]
    by_cases e1 : j = k <;> by_cases e2 : j = i
    · omega
    · subst e1; simp [Ne.symm h]
    · subst e2; simp [h]
    · simp [e1, e2]
theorem put_put {ps : List (List UInt8)} (hw : Wide ps) {i : Nat} {x y : List UInt8} (hx : x.length = 64) (hy : y.length = 64) : put (put ps i x 64) i y 64 = put ps i y 64 := by
  apply pages_ext
  · simp only [length_put]; omega
  · intro j
    simp only [pg_put]
    split
    · rename_i e
      rw [if_pos trivial, over_all hy (wide_pg hw _), over_all hy (length_over hx (wide_pg hw _) (Nat.le_refl _))]
    · rfl
end Go.Proofs.Ytcembocnkndlhaa
/- The walk of Sync. -/
namespace Go.Proofs.Ytcembocnkndlhaa
open Go.RowKit
theorem plate_x {gp : Nat} {pv : Value} {L : List (List UInt8)} {x : Wt} {dv : Value} {n : Int} {w : World} (hg : w.heap[gp]? = some (.cells #[pv] 77 (0, 0))) (hO : OwnPages w (gp + 1) pv L) (hd : ∀ W, Below gp w W → IsBytes W dv x.data)
    (hx : 0 ≤ x.at_ ∧ x.at_ < 400 ∧ x.data.length = 64) (h0 : 0 ≤ n) (hn : n ≤ 64) :
    Calls Try.prog 62 #[.pointer (some ⟨gp, 0, none⟩), .agg #[.int .i64 x.at_, dv], .int .i64 n] w (Wrote gp (put L x.at_.toNat x.data n.toNat) w) := by
  have h := plate_any gp pv L x.at_.toNat dv x.data n.toNat w hg hO hd hx.2.2 (by omega) (by omega)
  rw [show ((x.at_.toNat : Nat) : Int) = x.at_ by omega, show ((n.toNat : Nat) : Int) = n by omega] at h
  exact h
theorem spin_x {v : Value} {d : Dk} {w : World} (h : IsDisk w v d) (hf : formed d = true) : Calls Try.prog 61 #[v] w (Spun d.pages w) := by
  obtain ⟨h1, h2, h3, h4⟩ := (formed_iff d).1 hf
  have e : d.pages.map full = d.pages := by
    have : ∀ l : List (List UInt8), (∀ p ∈ l, p.length = 64) → l.map full = l := by
      intro l
      induction l with
      | nil => intro _; rfl
      | cons p r ih => intro hl; rw [List.map_cons, full_self (hl p (by simp)), ih fun q hq => hl q (by simp [hq])]
    exact this _ h2
  have := spin_any v d w h h1
  rwa [e] at this
theorem Box3.set {w : World} {g : Nat} {a b c x y z : Value} {t : TypeId} (h : w.heap[g]? = some (.cells #[a, b, c] t (0, 0))) : (((w.setCell ⟨g, 0, none⟩ x).setCell ⟨g, 1, none⟩ y).setCell ⟨g, 2, none⟩ z).heap[g]? = some (.cells #[x, y, z] t (0, 0)) := by
  simp [World.setCell, Array.getElem?_modify, h]
set_option maxHeartbeats 4000000 in
set_option maxRecDepth 100000 in
theorem Sync_any (v : Value) (d : Dk) (w : World) (h : IsDisk w v d) : Calls Try.prog 22 #[v] w (DiskErr (syncD d) w) := by
  have h0 := h
  obtain ⟨pa, pc, wa, wc, rfl, hp, hw, m1, m2, m3⟩ := h.shape
  obtain ⟨C, hC⟩ : ∃ C, C = Obj.cells #[.slice pa d.pages.length pc, .slice wa d.writes.length wc, .bool d.down] 25 := ⟨_, rfl⟩
  obtain ⟨Z, hZ⟩ : ∃ Z, Z = Obj.cells #[.slice none 0 0, .slice none 0 0, .bool false] 25 := ⟨_, rfl⟩
  obtain ⟨wb, hwb⟩ : ∃ x : World, x = (w.alloc C).alloc Z := ⟨_, rfl⟩
  have b1 := below_new w C
  have b2 : Below (w.alloc C).heap.size (w.alloc C) wb := by subst hwb; exact below_new _ _
  have b0 := below_trans b1 b2
  have g0 : wb.heap[w.heap.size]? = some (.cells #[.slice pa d.pages.length pc, .slice wa d.writes.length wc, .bool d.down] 25 (0, 0)) := by
    subst hC; exact box_at b2
  have g1 : wb.heap[w.heap.size + 1]? = some (.cells #[.slice none 0 0, .slice none 0 0, .bool false] 25 (0, 0)) := by
    subst hwb hZ
    have := heap_alloc_new (w.alloc C) (.cells #[.slice none 0 0, .slice none 0 0, .bool false] 25)
    simpa using this
  have hsb : wb.heap.size = w.heap.size + 1 + 1 := by subst hwb; simp
  by_cases hf : failure d 0 = 0
  · have H := Lib.hid (show syncD d = (⟨replay d.pages d.writes, [], false⟩, 0) by unfold syncD; rw [if_neg (by simp [hf])])
    have hform := (failure_zero hf).1
    have HF := Lib.hid hf
    have HFm := Lib.hid hform
    clear hf hform
    go_enter Try.func22, Try.ntmps22
    go_wp2_with fail
    rw [← hC, ← hZ, ← hwb]
    clear hC hZ hwb b2
    refine (failure_eq (h0.keep b0) _ HF.out).mono ?_
    rintro e w3 ⟨rfl, b3⟩
    have b03 := below_trans b0 b3
    obtain ⟨y0, y1, y2, -, -, -⟩ := Box3.of (block_keep g0 b3)
    go_wp2_with fail
    refine (spin_x (h0.keep b03) HFm.out).mono ?_
    rintro e w4 ⟨gp, pv, rfl, hgp, hg4, hO4, b4⟩
    have b34 := below_trans b3 b4
    have hs3 := b3.size
    clear y0 y1 y2
    obtain ⟨y0, y1, y2, -, -, -⟩ := Box3.of (block_keep g0 b34)
    have b04 := below_trans b0 b34
    go_wp2
    have hsg : wb.heap.size ≤ gp := by omega
    have hlt4 : gp < w4.heap.size := block_lt hg4
    go_loopw [8, 22] (fun _ i wr => ∃ (k : Nat) (pv : Value), k ≤ d.writes.length ∧ i = .int .i64 k ∧ wr.heap[gp]? = some (.cells #[pv] 77 (0, 0)) ∧ OwnPages wr (gp + 1) pv (replay d.pages (d.writes.take k)) ∧ Below gp w4 wr) (fun _ i _ => d.writes.length - (intOf i).toNat)
    case atStart => exact ⟨0, pv, Nat.zero_le _, rfl, hg4, hO4, Below.refl _ _⟩
    case round =>
      obtain ⟨k, pv', hk, rfl, hgr, hOr, hb⟩ := hrel
      have bw : Below w.heap.size w wr := b04.trans (hb.mono (by omega))
      by_cases hlt : k < d.writes.length
      · obtain ⟨b, off, da, dc, rfl, c0, c1, hB⟩ := hw.at_ (List.getElem?_eq_getElem hlt)
        have HM := Lib.hid (((formed_iff d).1 HFm.out).2.2.1 d.writes[k] (List.getElem_mem hlt))
        have HT := Lib.hid (List.take_succ_eq_append_getElem hlt)
        have d0 := cell_keep bw c0
        have d1 := cell_keep bw c1
        generalize d.writes[k] = x at *
        clear c0 c1
        have hsr := hb.size
        go_wp2_with fail
        refine (plate_x (x := x) (block_keep hgr (below_new _ _)) (hOr.keep (below_new _ _)) (fun W hW => hB.keep ((bw.alloc bw.size _).trans (hW.mono (show w.heap.size ≤ gp by omega)))) HM.out (by omega) (by omega)).mono ?_
        rintro e w6 ⟨⟨u, rfl⟩, pv6, hg6, hO6, b6⟩
        go_wp2
        go_roundw
        case rel =>
          refine ⟨k + 1, pv6, by omega, by go_num, hg6, ?_, (hb.alloc (by omega) _).trans b6⟩
          rw [HT.out, replay_snoc]; exact hO6
        case measure => simp [intOf]; omega
      · have e : k = d.writes.length := by omega
        subst e
        rw [List.take_length] at hOr
        obtain ⟨va, vc, rfl⟩ := hOr.len
        have hcg : wr.cell? ⟨gp, 0, none⟩ = some (.slice va (replay d.pages d.writes).length vc) := cell_at (j := 0) hgr rfl
        have bb : Below wb.heap.size wb wr := b34.trans (hb.mono (show wb.heap.size ≤ gp by omega))
        obtain ⟨u0, u1, u2, uf0, uf1, uf2⟩ := Box3.of (block_keep g1 bb)
        have hne : gp ≠ w.heap.size + 1 := by omega
        have hne' : w.heap.size + 1 ≠ gp := by omega
        have HFS := Lib.hid (wide_of_formed HFm.out d.writes.length).2
        go_wp2
        refine bodyPost_ret (v := .tuple #[.agg #[.slice va (replay d.pages d.writes).length vc, .slice none 0 0, .bool false], .int .i64 0]) (by simp [results, Try.results22, go_sem, u0, u1, u2]) rfl ?_
        refine ⟨_, by rw [H.out], ?_, ?_⟩
        · rw [H.out]
          have hlen := HFS.out
          rw [List.take_length] at hlen
          exact ⟨_, _, rfl, OwnPages.is (((hOr.store (p := ⟨w.heap.size + 1, 0, none⟩) (by simp; omega) _).store (p := ⟨w.heap.size + 1, 1, none⟩) (by simp; omega) _).store (p := ⟨w.heap.size + 1, 2, none⟩) (by simp; omega) _) (by dsimp only; omega), IsWrites.nil _⟩
        · exact ((bw.setCell (p := ⟨w.heap.size + 1, 0, none⟩) (by simp) _).setCell (p := ⟨w.heap.size + 1, 1, none⟩) (by simp) _).setCell (p := ⟨w.heap.size + 1, 2, none⟩) (by simp) _
  · have H := Lib.hid (show syncD d = (noDisk, failure d 0) by unfold syncD; rw [if_pos hf])
    have hne := ne_beq hf
    have hbq : (failure d 0 != 0) = true := by simpa using hf
    generalize hR : failure d 0 = R at *
    have HR := Lib.hid hR
    clear hR
    go_enter Try.func22, Try.ntmps22
    go_wp2_with fail
    rw [← hC, ← hZ, ← hwb]
    refine (failure_eq (h0.keep b0) _ HR.out).mono ?_
    rintro e w3 ⟨rfl, b3⟩
    obtain ⟨u0, u1, u2, uf0, uf1, uf2⟩ := Box3.of (block_keep g1 b3)
    go_wp2
    refine bodyPost_ret (v := .tuple #[zeroV, .int .i64 R]) (by simp [results, Try.results22, go_sem, zeroV, u0, u1, u2]) rfl ?_
    refine ⟨zeroV, by rw [H.out], by rw [H.out]; exact IsDisk.zero _, ?_⟩
    exact (((below_trans b0 b3).setCell (p := ⟨w.heap.size + 1, 0, none⟩) (by simp) _).setCell (p := ⟨w.heap.size + 1, 1, none⟩) (by simp) _).setCell (p := ⟨w.heap.size + 1, 2, none⟩) (by simp) _
end Go.Proofs.Ytcembocnkndlhaa
/- The walk of Crash. -/
namespace Go.Proofs.Ytcembocnkndlhaa
open Go.RowKit
set_option maxHeartbeats 4000000 in
set_option maxRecDepth 100000 in
theorem Crash_any (v : Value) (d : Dk) (keep torn : Int) (w : World) (h : IsDisk w v d) : Calls Try.prog 27 #[v, .int .i64 keep, .int .i64 torn] w (DiskRet (crashD d keep torn) w) := by
  have h0 := h
  obtain ⟨pa, pc, wa, wcp, rfl, hp, hw, m1, m2, m3⟩ := h.shape
  obtain ⟨C, hC⟩ : ∃ C, C = Obj.cells #[.slice pa d.pages.length pc, .slice wa d.writes.length wcp, .bool d.down] 25 := ⟨_, rfl⟩
  obtain ⟨Z, hZ⟩ : ∃ Z, Z = Obj.cells #[.slice none 0 0, .slice none 0 0, .bool false] 25 := ⟨_, rfl⟩
  obtain ⟨wb, hwb⟩ : ∃ x : World, x = (w.alloc C).alloc Z := ⟨_, rfl⟩
  have b1 := below_new w C
  have b2 : Below (w.alloc C).heap.size (w.alloc C) wb := by subst hwb; exact below_new _ _
  have b0 := below_trans b1 b2
  have g0 : wb.heap[w.heap.size]? = some (.cells #[.slice pa d.pages.length pc, .slice wa d.writes.length wcp, .bool d.down] 25 (0, 0)) := by
    subst hC; exact box_at b2
  have g1 : wb.heap[w.heap.size + 1]? = some (.cells #[.slice none 0 0, .slice none 0 0, .bool false] 25 (0, 0)) := by
    subst hwb hZ
    have := heap_alloc_new (w.alloc C) (.cells #[.slice none 0 0, .slice none 0 0, .bool false] 25)
    simpa using this
  have hsb : wb.heap.size = w.heap.size + 1 + 1 := by subst hwb; simp
  cases hf : formed d
  · have H := Lib.hid (show crashD d keep torn = noDisk by unfold crashD; rw [hf]; rfl)
    have HF := Lib.hid hf
    clear hf
    go_enter Try.func27, Try.ntmps27
    go_wp2_with fail
    rw [← hC, ← hZ, ← hwb]
    refine (formed_eq (h0.keep b0) _ HF.out).mono ?_
    rintro e w3 ⟨rfl, b3⟩
    obtain ⟨u0, u1, u2, uf0, uf1, uf2⟩ := Box3.of (block_keep g1 b3)
    go_wp2
    refine bodyPost_ret (v := zeroV) (by simp [results, Try.results27, go_sem, zeroV, u0, u1, u2]) rfl ?_
    refine ⟨zeroV, rfl, by rw [H.out]; exact IsDisk.zero _, ?_⟩
    exact (((below_trans b0 b3).setCell (p := ⟨w.heap.size + 1, 0, none⟩) (by simp) _).setCell (p := ⟨w.heap.size + 1, 1, none⟩) (by simp) _).setCell (p := ⟨w.heap.size + 1, 2, none⟩) (by simp) _
  · have H := Lib.hid (show crashD d keep torn = ⟨broken d keep torn, [], true⟩ by unfold crashD; rw [hf]; rfl)
    have HFm := Lib.hid hf
    clear hf
    go_enter Try.func27, Try.ntmps27
    go_wp2_with fail
    rw [← hC, ← hZ, ← hwb]
    clear hC hZ hwb b2
    refine (formed_eq (h0.keep b0) _ HFm.out).mono ?_
    rintro e w3 ⟨rfl, b3⟩
    have b03 := below_trans b0 b3
    obtain ⟨y0, y1, y2, -, -, -⟩ := Box3.of (block_keep g0 b3)
    go_wp2_with fail
    refine (spin_x (h0.keep b03) HFm.out).mono ?_
    rintro e w4 ⟨gp, pv, rfl, hgp, hg4, hO4, b4⟩
    have b34 := below_trans b3 b4
    have hs3 := b3.size
    clear y0 y1 y2
    obtain ⟨y0, y1, y2, -, -, -⟩ := Box3.of (block_keep g0 b34)
    have b04 := below_trans b0 b34
    have hsg : wb.heap.size ≤ gp := by omega
    have hlt4 : gp < w4.heap.size := block_lt hg4
    obtain ⟨kk, hkk⟩ : ∃ kk, kept d keep = kk := ⟨_, rfl⟩
    have hkl : kk ≤ d.writes.length := by rw [← hkk]; exact kept_le d keep
    have hk1 : max 0 (min keep d.writes.length) = (kk : Int) := by unfold kept at hkk; omega
    go_upto_region 5 with fail
    have HK1 := Lib.hid hk1
    have HKK := Lib.hid hkk
    clear hk1 hkk
    go_cut [1] from 19 to 24 (fun v1 wx => v1 = .int .i64 (kk : Int) ∧ w4 = wx)
    case first =>
      go_wp2
      all_goals
        go_meet
        case rel => exact ⟨by congr 1; have := HK1.out; omega, rfl⟩
    case rest =>
      obtain ⟨rfl, rfl⟩ := hcut
      have hlw : kk ≤ wcp := by omega
      have hnl : (0 : Int) ≤ (kk : Int) := by omega
      have hnl2 : (kk : Int) ≤ (wcp : Int) := by omega
      go_wp2
      go_loopw [10, 30] (fun _ i wr => ∃ (k : Nat) (pv : Value), k ≤ kk ∧ i = .int .i64 k ∧ wr.heap[gp]? = some (.cells #[pv] 77 (0, 0)) ∧ OwnPages wr (gp + 1) pv (replay d.pages (d.writes.take k)) ∧ Below gp w4 wr) (fun _ i _ => kk - (intOf i).toNat)
      case atStart => exact ⟨0, pv, Nat.zero_le _, rfl, hg4, hO4, Below.refl _ _⟩
      case round =>
        obtain ⟨k, pv', hk, rfl, hgr, hOr, hb⟩ := hrel
        have bw : Below w.heap.size w wr := b04.trans (hb.mono (by omega))
        by_cases hlt : k < kk
        · have hltw : k < d.writes.length := by omega
          obtain ⟨b, off, da, dc, rfl, c0, c1, hB⟩ := hw.at_ (List.getElem?_eq_getElem hltw)
          have HM := Lib.hid (((formed_iff d).1 HFm.out).2.2.1 d.writes[k] (List.getElem_mem hltw))
          have HT := Lib.hid (List.take_succ_eq_append_getElem hltw)
          have d0 := cell_keep bw c0
          have d1 := cell_keep bw c1
          generalize d.writes[k] = x at *
          clear c0 c1
          have hsr := hb.size
          go_wp2_with fail
          refine (plate_x (x := x) (block_keep hgr (below_new _ _)) (hOr.keep (below_new _ _)) (fun W hW => hB.keep ((bw.alloc bw.size _).trans (hW.mono (show w.heap.size ≤ gp by omega)))) HM.out (by omega) (by omega)).mono ?_
          rintro e w6 ⟨⟨u, rfl⟩, pv6, hg6, hO6, b6⟩
          go_wp2
          go_roundw
          case rel =>
            refine ⟨k + 1, pv6, by omega, by go_num, hg6, ?_, (hb.alloc (by omega) _).trans b6⟩
            rw [HT.out, replay_snoc]; exact hO6
          case measure => simp [intOf]; omega
        · have e : k = kk := by omega
          subst e
          obtain ⟨w5, rfl⟩ : ∃ x : World, x = wr := ⟨_, rfl⟩
          have bb : Below wb.heap.size wb w5 := b34.trans (hb.mono (show wb.heap.size ≤ gp by omega))
          obtain ⟨y0, y1, y2, -, -, -⟩ := Box3.of (block_keep g0 bb)
          have hne : gp ≠ w.heap.size + 1 := by omega
          have hne' : w.heap.size + 1 ≠ gp := by omega
          by_cases hq : k < d.writes.length ∧ torn > 0
          · obtain ⟨hq1, hq2⟩ := hq
            have hd1 : decide ((k : Int) < (d.writes.length : Int)) = true := decide_eq_true (by omega)
            have hd2 : decide (0 < torn) = true := decide_eq_true hq2
            obtain ⟨b, off, da, dc, rfl, c0, c1, hB⟩ := hw.at_ (List.getElem?_eq_getElem hq1)
            have HM := Lib.hid (((formed_iff d).1 HFm.out).2.2.1 d.writes[k] (List.getElem_mem hq1))
            have HB := Lib.hid (show broken d keep torn = put (replay d.pages (d.writes.take k)) d.writes[k].at_.toNat d.writes[k].data (min torn 64).toNat by
              unfold broken
              rw [HKK.out, List.getElem?_eq_getElem hq1]
              dsimp only
              rw [if_pos hq2])
            have HFS := Lib.hid (broken_wide HFm.out keep torn).2
            have d0 := cell_keep bw c0
            have d1 := cell_keep bw c1
            generalize d.writes[k] = x at *
            clear c0 c1
            have hsr := hb.size
            have key : ∀ n : Int, n = min torn 64 → Calls Try.prog 62 #[.pointer (some ⟨gp, 0, none⟩), .agg #[.int .i64 x.at_, .slice da x.data.length dc], .int .i64 n] w5 (Wrote gp (put (replay d.pages (d.writes.take k)) x.at_.toNat x.data (min torn 64).toNat) w5) := fun n hn => by
              subst hn
              exact plate_x (x := x) hgr hOr (fun W hW => hB.keep (bw.trans (hW.mono (show w.heap.size ≤ gp by omega)))) HM.out (by omega) (by omega)
            by_cases ht : torn ≤ 64
            all_goals
              first
                | have HN := Lib.hid (key torn (by omega))
                | have HN := Lib.hid (key 64 (by omega))
              clear key
              go_wp2_with fail
              refine HN.out.mono ?_
              rintro e w6 ⟨⟨u, rfl⟩, pv6, hg6, hO6, b6⟩
              have b56 : Below w.heap.size w w6 := bw.trans (b6.mono (show w.heap.size ≤ gp by omega))
              rw [← HB.out] at hO6
              generalize broken d keep torn = R at *
              obtain ⟨va, vc, rfl⟩ := hO6.len
              have hcg : w6.cell? ⟨gp, 0, none⟩ = some (.slice va R.length vc) := cell_at (j := 0) hg6 rfl
              obtain ⟨u0, u1, u2, uf0, uf1, uf2⟩ := Box3.of (block_keep g1 (bb.trans (b6.mono (show wb.heap.size ≤ gp by omega))))
              go_wp2
              refine bodyPost_ret (v := .agg #[.slice va R.length vc, .slice none 0 0, .bool true]) (by simp [results, Try.results27, go_sem, u0, u1, u2]) rfl ?_
              refine ⟨_, rfl, ?_, ?_⟩
              · rw [H.out]
                exact ⟨_, _, rfl, OwnPages.is (((hO6.store (p := ⟨w.heap.size + 1, 0, none⟩) (by simp; omega) _).store (p := ⟨w.heap.size + 1, 1, none⟩) (by simp; omega) _).store (p := ⟨w.heap.size + 1, 2, none⟩) (by simp; omega) _) (by have := HFS.out; dsimp only; omega), IsWrites.nil _⟩
              · exact ((b56.setCell (p := ⟨w.heap.size + 1, 0, none⟩) (by simp) _).setCell (p := ⟨w.heap.size + 1, 1, none⟩) (by simp) _).setCell (p := ⟨w.heap.size + 1, 2, none⟩) (by simp) _
          · have HB := Lib.hid (show broken d keep torn = replay d.pages (d.writes.take k) by
              unfold broken
              rw [HKK.out]
              split
              · rename_i x hx
                have := (List.getElem?_eq_some_iff.1 hx).1
                rw [if_neg (by omega)]
              · rfl)
            have HFS := Lib.hid (wide_of_formed HFm.out k).2
            obtain ⟨va, vc, rfl⟩ := hOr.len
            have hcg : w5.cell? ⟨gp, 0, none⟩ = some (.slice va (replay d.pages (d.writes.take k)).length vc) := cell_at (j := 0) hgr rfl
            obtain ⟨u0, u1, u2, uf0, uf1, uf2⟩ := Box3.of (block_keep g1 bb)
            generalize replay d.pages (d.writes.take k) = R at *
            by_cases hq1 : k < d.writes.length
            all_goals
              first
                | have hd1 : decide ((k : Int) < (d.writes.length : Int)) = true := decide_eq_true (by omega)
                | have hd1 : decide ((k : Int) < (d.writes.length : Int)) = false := decide_eq_false (by omega)
              try have hd2 : decide (0 < torn) = false := decide_eq_false (by omega)
              clear hq
              go_wp2
              refine bodyPost_ret (v := .agg #[.slice va R.length vc, .slice none 0 0, .bool true]) (by simp [results, Try.results27, go_sem, u0, u1, u2]) rfl ?_
              refine ⟨_, rfl, ?_, ?_⟩
              · rw [H.out, HB.out]
                exact ⟨_, _, rfl, OwnPages.is (((hOr.store (p := ⟨w.heap.size + 1, 0, none⟩) (by simp; omega) _).store (p := ⟨w.heap.size + 1, 1, none⟩) (by simp; omega) _).store (p := ⟨w.heap.size + 1, 2, none⟩) (by simp; omega) _) (by have := HFS.out; dsimp only; omega), IsWrites.nil _⟩
              · exact ((bw.setCell (p := ⟨w.heap.size + 1, 0, none⟩) (by simp) _).setCell (p := ⟨w.heap.size + 1, 1, none⟩) (by simp) _).setCell (p := ⟨w.heap.size + 1, 2, none⟩) (by simp) _
end Go.Proofs.Ytcembocnkndlhaa
/- The walk of Backward over writes, and of Read. -/
namespace Go.Proofs.Ytcembocnkndlhaa
open Go.RowKit Go.Shelf
attribute [local go_sem] Oper.semAt_some
/-- The indices from the last one down to k. -/
def down (n k : Nat) : List (Fin n) := ((List.finRange n).drop k).reverse
theorem down_succ {n k : Nat} (h : k < n) : down n k = down n (k + 1) ++ [⟨k, h⟩] := by
  unfold down
  have hl : k < (List.finRange n).length := by simpa using h
  rw [List.drop_eq_getElem_cons hl, List.reverse_cons]
  simp
theorem down_top (n : Nat) : down n n = [] := by
  unfold down
  rw [List.drop_of_length_le (by simp)]; rfl
theorem down_length (n k : Nat) : (down n k).length = n - k := by simp [down]
theorem mem_down {n k : Nat} {i : Fin n} : i ∈ down n k ↔ k ≤ i.1 := by
  unfold down
  rw [List.mem_reverse, List.mem_iff_getElem?]
  constructor
  · rintro ⟨j, hj⟩
    rw [List.getElem?_drop] at hj
    obtain ⟨h1, h2⟩ := List.getElem?_eq_some_iff.1 hj
    simp at h2
    rw [← h2]; simp
  · intro h
    refine ⟨i.1 - k, ?_⟩
    rw [List.getElem?_drop, List.getElem?_eq_some_iff]
    exact ⟨by simp; omega, by simp; apply Fin.ext; simp; omega⟩
section
variable {len : Nat} (at_ : Fin len → Int) (fa : Fin len → Option Addr) (fl fc : Fin len → Nat)
def encX (i : Fin len) : Array Value := #[.int .i64 (i.1 : Int), .agg #[.int .i64 (at_ i), .slice (fa i) (fl i) (fc i)]]
set_option maxRecDepth 100000 in
set_option maxHeartbeats 2000000 in
theorem back1_in (l Bs n₀ : Nat) (sa : Option Addr) (cap : Nat) (hcap : len ≤ cap) (hcap2 : cap ≤ 9223372036854775807) (J Jx : List (Fin len) → World → Prop)
    (hY : ∀ pre (x : Fin len) W, J pre W → pre.length < len → YieldAt Fence.wide 2 Try.prog l (encX at_ fa fl fc x) W fun e W' =>
      (e = .returned (.bool true) ∧ J (pre ++ [x]) W' ∧ Below n₀ W W') ∨ (e = .returned (.bool false) ∧ Jx (pre ++ [x]) W'))
    (W : World) (hBs : ∀ W', Below n₀ W W' → W'.cell? ⟨Bs, 0, none⟩ = some (.slice sa len cap)) (hc : ∀ (i : Fin len) W', Below n₀ W W' → ∃ b off, sa = some ⟨b, off, none⟩ ∧ W'.cell? ⟨b, off + i.1 * 2, none⟩ = some (.int .i64 (at_ i)) ∧ W'.cell? ⟨b, off + i.1 * 2 + 1, none⟩ = some (.slice (fa i) (fl i) (fc i))) (h0 : J [] W) :
    CallsIn Fence.wide 3 Try.prog 76 #[.func (.yield l) #[] #[], .pointer (some ⟨Bs, 0, none⟩)] W fun e W' => (∃ v, e = .returned v) ∧
      ((∃ ys, ys = down len 0 ∧ J ys W') ∨ (∃ pre, (∃ k, k < len ∧ pre = down len k) ∧ Jx pre W')) := by
  refine callsIn_of_wp Try.func76 rfl trivial ?_ rfl
  simp only [Try.ntmps76, List.size_toArray, List.length_cons, List.length_nil, Nat.reduceAdd, Nat.reduceSub, Array.replicate_succ, Array.replicate_zero, List.push_toArray, List.append_toArray, List.nil_append, List.cons_append]
  have hb0 := hBs W (Below.refl _ _)
  gi_wp2
  gi_loopw [3] (fun i wr => ∃ (k : Nat) (z : Int), k ≤ len ∧ Hid (z = (k : Int) - 1) ∧ i = .int .i64 z ∧ J (down len k) wr ∧ Below n₀ W wr)
    (fun i _ => (intOf i + 1).toNat)
  case atStart => exact ⟨len, _, Nat.le_refl _, Lib.hid rfl, rfl, by rw [down_top]; exact h0, Below.refl _ _⟩
  case round =>
    obtain ⟨k, z, hk, hz, rfl, hJs, hnx⟩ := hrel
    cases k with
    | zero =>
      obtain rfl : z = -1 := by have := hz.out; omega
      gi_wp2
      go_end0
      exact ⟨⟨_, rfl⟩, .inl ⟨_, rfl, hJs⟩⟩
    | succ j =>
      obtain rfl : z = (j : Int) := by have := hz.out; omega
      have hjl : j < len := by omega
      have hBx := hBs wr hnx
      obtain ⟨b, off, rfl, c0, c1⟩ := hc ⟨j, hjl⟩ wr hnx
      dsimp only at c0 c1
      obtain ⟨fn, tmps, assign, body, hy, hR⟩ := hY _ ⟨j, hjl⟩ wr hJs (by rw [down_length]; omega)
      rw [← down_succ hjl] at hR
      unfold encX at hy
      dsimp only at hy
      have hj0 : (0 : Int) ≤ (j : Int) := by omega
      gi_wp2
      refine hR.mono ?_
      rintro e W3 (⟨rfl, hJ3, hk3⟩ | ⟨rfl, hJx3⟩)
      · gi_wp2
        go_roundw
        case rel => exact ⟨j, _, by omega, Lib.hid rfl, rfl, hJ3, hnx.trans hk3⟩
        case measure => simp [intOf]
      · gi_wp2
        refine bodyPost_ret (results_none rfl _ _ _) rfl ?_
        exact ⟨⟨_, rfl⟩, .inr ⟨_, ⟨j, hjl, rfl⟩, hJx3⟩⟩
theorem back_stops (Bs n₀ : Nat) (sa : Option Addr) (cap : Nat) (hcap : len ≤ cap) (hcap2 : cap ≤ 9223372036854775807) (w : World) (hn : n₀ ≤ w.heap.size)
    (hBs : ∀ W', Below n₀ w W' → W'.cell? ⟨Bs, 0, none⟩ = some (.slice sa len cap)) (hc : ∀ (i : Fin len) W', Below n₀ w W' → ∃ b off, sa = some ⟨b, off, none⟩ ∧ W'.cell? ⟨b, off + i.1 * 2, none⟩ = some (.int .i64 (at_ i)) ∧ W'.cell? ⟨b, off + i.1 * 2 + 1, none⟩ = some (.slice (fa i) (fl i) (fc i))) :
    SeqStopsK Fence.wide 3 Try.prog 76 #[.pointer (some ⟨Bs, 0, none⟩)] (encX at_ fa fl fc) (Below n₀) (fun ys => ys = down len 0) (fun pre => ∃ k, k < len ∧ pre = down len k) len w := fun l J Jx W hW _ _ hY h0 =>
  back1_in at_ fa fl fc l Bs n₀ sa cap hcap hcap2 J Jx hY W (fun W' h => hBs W' ((hW.mono hn).trans h)) (fun i W' h => hc i W' ((hW.mono hn).trans h)) h0
end
theorem back_any (a : Option Addr) (n c : Nat) (w : World) :
    Calls Try.prog 64 #[.slice a n c] w fun e w' => e = .returned (.func (.func 76) #[] #[.pointer (some ⟨w.heap.size, 0, none⟩)]) ∧ w' = w.alloc (.cells #[.slice a n c] 23) := by
  go_enter Try.func64, Try.ntmps64
  go_wp2
  go_ret
  exact ⟨rfl, rfl⟩
end Go.Proofs.Ytcembocnkndlhaa
/- The walk of Read. -/
namespace Go.Proofs.Ytcembocnkndlhaa
open Go.RowKit Go.Shelf
attribute [local go_sem] Oper.semAt_some
/-- What Read hands back. -/
def BytesErr (r : List UInt8 × Int) (w : World) (e : Ending) (w' : World) : Prop := ∃ v, e = .returned (.tuple #[v, .int .i64 r.2]) ∧ IsBytes w' v r.1 ∧ Below w.heap.size w w'
theorem look_hit {d : Dk} {k : Int} {i : Nat} (hi : i < d.writes.length) (h : d.writes[i].at_ = k) (hn : ∀ j (hj : j < d.writes.length), i < j → d.writes[j].at_ ≠ k) : look d k = full d.writes[i].data := by
  have e : d.writes = d.writes.take i ++ d.writes[i] :: d.writes.drop (i + 1) := by rw [List.getElem_cons_drop, List.take_append_drop]
  unfold look
  have : d.writes.reverse.find? (fun w => decide (w.at_ = k)) = some d.writes[i] := by
    conv => lhs; rw [e]
    rw [List.reverse_append, List.reverse_cons, List.append_assoc, List.find?_append]
    have h1 : (d.writes.drop (i + 1)).reverse.find? (fun w => decide (w.at_ = k)) = none := by
      rw [List.find?_eq_none]
      intro x hx
      rw [List.mem_reverse] at hx
      obtain ⟨j, hj, rfl⟩ := List.getElem_of_mem hx
      rw [List.getElem_drop]
      have := hn (i + 1 + j) (by rw [List.length_drop] at hj; omega) (by omega)
      simpa using this
    rw [h1]
    simp [h]
  rw [this]
theorem look_miss {d : Dk} {k : Int} (hn : ∀ j (hj : j < d.writes.length), d.writes[j].at_ ≠ k) : look d k = if k < d.pages.length then full (d.pages.getD k.toNat []) else full [] := by
  unfold look
  have : d.writes.reverse.find? (fun w => decide (w.at_ = k)) = none := by
    rw [List.find?_eq_none]
    intro x hx
    rw [List.mem_reverse] at hx
    obtain ⟨j, hj, rfl⟩ := List.getElem_of_mem hx
    simpa using hn j hj
  rw [this]
theorem OwnPage.kept {A B : World} {base : Nat} {v : Value} {l : List UInt8} {row : Option Nat} (h : OwnPage A base v l) (hg : A.grownBy B row) (hr : ∀ r, row = some r → ∃ o : Obj, A.heap[r]? = some o ∧ o.isCells = false) : OwnPage B base v l := by
  obtain ⟨g, e, h1, h2, h3⟩ := h
  refine ⟨g, e, h1, (hg.block g (block_lt h2) fun e' => ?_).trans h2, h3⟩
  obtain ⟨o, ho, hc⟩ := hr g e'.symm
  rw [h2] at ho; cases ho; cases hc
theorem OwnPage.mono {w : World} {base base' : Nat} {v : Value} {l : List UInt8} (h : OwnPage w base v l) (hb : base' ≤ base) : OwnPage w base' v l := by
  obtain ⟨g, e, h1, h2, h3⟩ := h
  exact ⟨g, e, by omega, h2, h3⟩
theorem keepsFrom_below {B : Nat} {w w' : World} (h : Below w.heap.size w w') : KeepsFrom B w w' := ⟨h.size, fun _ _ _ hk _ => block_keep hk h⟩
/-- Each write's cells, by its index. -/
theorem writes_fun {w : World} {wa : Option Addr} {n wc : Nat} {L : List Wt} (h : IsWrites w (.slice wa n wc) L) :
    ∃ (fa : Fin L.length → Option Addr) (fc : Fin L.length → Nat), ∀ i : Fin L.length, (∃ b off, wa = some ⟨b, off, none⟩ ∧ w.cell? ⟨b, off + i.1 * 2, none⟩ = some (.int .i64 L[i.1].at_) ∧ w.cell? ⟨b, off + i.1 * 2 + 1, none⟩ = some (.slice (fa i) L[i.1].data.length (fc i))) ∧ IsBytes w (.slice (fa i) L[i.1].data.length (fc i)) L[i.1].data := by
  have key : ∀ i : Fin L.length, ∃ p : Option Addr × Nat, (∃ b off, wa = some ⟨b, off, none⟩ ∧ w.cell? ⟨b, off + i.1 * 2, none⟩ = some (.int .i64 L[i.1].at_) ∧ w.cell? ⟨b, off + i.1 * 2 + 1, none⟩ = some (.slice p.1 L[i.1].data.length p.2)) ∧ IsBytes w (.slice p.1 L[i.1].data.length p.2) L[i.1].data := fun i => by
    obtain ⟨b, off, pa, pc, h1, h2, h3, h4⟩ := h.at_ (List.getElem?_eq_getElem i.2)
    exact ⟨(pa, pc), ⟨b, off, h1, h2, h3⟩, h4⟩
  exact ⟨fun i => (Classical.choose (key i)).1, fun i => (Classical.choose (key i)).2, fun i => Classical.choose_spec (key i)⟩
set_option maxHeartbeats 4000000 in
set_option maxRecDepth 100000 in
theorem Read_err (v : Value) (d : Dk) (k : Int) (w : World) (h : IsDisk w v d) (hf : failure d k ≠ 0) : Calls Try.prog 24 #[v, .int .i64 k] w (BytesErr (readD d k) w) := by
  have h0 := h
  obtain ⟨pa, pc, wa, wcp, rfl, hp, hw, m1, m2, m3⟩ := h.shape
  obtain ⟨C, hC⟩ : ∃ C, C = Obj.cells #[.slice pa d.pages.length pc, .slice wa d.writes.length wcp, .bool d.down] 25 := ⟨_, rfl⟩
  obtain ⟨wb, hwb⟩ : ∃ x : World, x = (((w.alloc C).alloc (.cells #[.int .i64 k] 3)).alloc (.cells #[.slice none 0 0] 26)).alloc (.cells #[.int .i64 0] 29) := ⟨_, rfl⟩
  have hsz : wb.heap.size = w.heap.size + 4 := by subst hwb; simp
  have b0 : Below w.heap.size w wb := by subst hwb; exact below_trans (below_trans (below_trans (below_new _ _) (below_new _ _)) (below_new _ _)) (below_new _ _)
  have x2 : wb.heap[w.heap.size + 1 + 1]? = some (.cells #[.slice none 0 0] 26 (0, 0)) := by
    have h2 : ((w.alloc C).alloc (.cells #[.int .i64 k] 3)).heap.size = w.heap.size + 1 + 1 := by simp
    subst hwb
    exact block_keep (by have := heap_alloc_new ((w.alloc C).alloc (.cells #[.int .i64 k] 3)) (.cells #[.slice none 0 0] 26); rwa [h2] at this) (below_new _ _)
  have x3 : wb.heap[w.heap.size + 1 + 1 + 1]? = some (.cells #[.int .i64 0] 29 (0, 0)) := by
    have h2 : (((w.alloc C).alloc (.cells #[.int .i64 k] 3)).alloc (.cells #[.slice none 0 0] 26)).heap.size = w.heap.size + 1 + 1 + 1 := by simp
    subst hwb
    have := heap_alloc_new (((w.alloc C).alloc (.cells #[.int .i64 k] 3)).alloc (.cells #[.slice none 0 0] 26)) (.cells #[.int .i64 0] 29); rwa [h2] at this
  have H := Lib.hid (show readD d k = ([], failure d k) by unfold readD; rw [if_pos hf])
  have hne := ne_beq hf
  have hbq : (failure d k != 0) = true := by simpa using hf
  generalize hR : failure d k = R at *
  have HR := Lib.hid hR
  clear hR
  go_enter Try.func24, Try.ntmps24
  go_wp2_with fail
  rw [← hC, ← hwb]
  refine (failure_eq (h0.keep b0) _ HR.out).mono ?_
  rintro e w3 ⟨rfl, b3⟩
  have z2 : w3.cell? ⟨w.heap.size + 1 + 1, 0, none⟩ = some (.slice none 0 0) := cell_at (block_keep x2 b3) rfl
  have z3 : w3.cell? ⟨w.heap.size + 1 + 1 + 1, 0, none⟩ = some (.int .i64 0) := cell_at (block_keep x3 b3) rfl
  have f2 : w3.frozen? ⟨w.heap.size + 1 + 1, 0, none⟩ = false := free_at (block_keep x2 b3)
  have f3 : w3.frozen? ⟨w.heap.size + 1 + 1 + 1, 0, none⟩ = false := free_at (block_keep x3 b3)
  go_wp2
  refine bodyPost_ret (v := .tuple #[.slice none 0 0, .int .i64 R]) (by simp [results, Try.results24, go_sem, z2, z3]) rfl ?_
  refine ⟨_, by rw [H.out], by rw [H.out]; exact IsBytes.nil _, ?_⟩
  exact ((below_trans b0 b3).setCell (p := ⟨w.heap.size + 1 + 1, 0, none⟩) (by simp; omega) _).setCell (p := ⟨w.heap.size + 1 + 1 + 1, 0, none⟩) (by simp; omega) _
set_option maxHeartbeats 4000000 in
set_option maxRecDepth 100000 in
theorem Read_in (v : Value) (d : Dk) (k : Int) (w : World) (h : IsDisk w v d) (hf : failure d k = 0) : CallsIn Fence.wide 4 Try.prog 24 #[v, .int .i64 k] w (BytesErr (readD d k) w) := by
  have h0 := h
  obtain ⟨pa, pc, wa, wcp, rfl, hp, hw, m1, m2, m3⟩ := h.shape
  obtain ⟨fa, fc, hfs⟩ := writes_fun hw
  obtain ⟨C, hC⟩ : ∃ C, C = Obj.cells #[.slice pa d.pages.length pc, .slice wa d.writes.length wcp, .bool d.down] 25 := ⟨_, rfl⟩
  obtain ⟨wb, hwb⟩ : ∃ x : World, x = (((w.alloc C).alloc (.cells #[.int .i64 k] 3)).alloc (.cells #[.slice none 0 0] 26)).alloc (.cells #[.int .i64 0] 29) := ⟨_, rfl⟩
  have hsz : wb.heap.size = w.heap.size + 1 + 1 + 1 + 1 := by subst hwb; simp
  have b0 : Below w.heap.size w wb := by subst hwb; exact below_trans (below_trans (below_trans (below_new _ _) (below_new _ _)) (below_new _ _)) (below_new _ _)
  have x0 : wb.heap[w.heap.size]? = some (.cells #[.slice pa d.pages.length pc, .slice wa d.writes.length wcp, .bool d.down] 25 (0, 0)) := by
    subst hwb hC
    exact block_keep (heap_alloc_new w _) (below_trans (below_trans (below_new _ _) (below_new _ _)) (below_new _ _))
  have x1 : wb.heap[w.heap.size + 1]? = some (.cells #[.int .i64 k] 3 (0, 0)) := by
    have h2 : (w.alloc C).heap.size = w.heap.size + 1 := by simp
    subst hwb
    exact block_keep (by have := heap_alloc_new (w.alloc C) (.cells #[.int .i64 k] 3); rwa [h2] at this) (below_trans (below_new _ _) (below_new _ _))
  have x2 : wb.heap[w.heap.size + 1 + 1]? = some (.cells #[.slice none 0 0] 26 (0, 0)) := by
    have h2 : ((w.alloc C).alloc (.cells #[.int .i64 k] 3)).heap.size = w.heap.size + 1 + 1 := by simp
    subst hwb
    exact block_keep (by have := heap_alloc_new ((w.alloc C).alloc (.cells #[.int .i64 k] 3)) (.cells #[.slice none 0 0] 26); rwa [h2] at this) (below_new _ _)
  have x3 : wb.heap[w.heap.size + 1 + 1 + 1]? = some (.cells #[.int .i64 0] 29 (0, 0)) := by
    have h2 : (((w.alloc C).alloc (.cells #[.int .i64 k] 3)).alloc (.cells #[.slice none 0 0] 26)).heap.size = w.heap.size + 1 + 1 + 1 := by simp
    subst hwb
    have := heap_alloc_new (((w.alloc C).alloc (.cells #[.int .i64 k] 3)).alloc (.cells #[.slice none 0 0] 26)) (.cells #[.int .i64 0] 29); rwa [h2] at this
  have H := Lib.hid (show readD d k = (look d k, 0) by unfold readD; rw [if_neg (by simp [hf])])
  obtain ⟨-, -, hk0, hk1⟩ := failure_zero hf
  have HF := Lib.hid hf
  clear hf
  refine callsIn_of_wp_marks Try.func24 rfl trivial ?_ rfl
  simp only [Try.ntmps24, List.size_toArray, List.length_cons, List.length_nil, Nat.reduceAdd, Nat.reduceSub, Array.replicate_succ, Array.replicate_zero, List.push_toArray, List.append_toArray, List.nil_append, List.cons_append]
  gi_wp2_with fail
  rw [← hC, ← hwb]
  clear hC hwb
  refine ⟨trivial, ?_⟩
  refine (callsIn_wide.2 (failure_eq (h0.keep b0) _ HF.out)).mono ?_
  rintro e w3 ⟨rfl, b3⟩
  obtain ⟨y0, y1, y2, -, -, -⟩ := Box3.of (block_keep x0 b3)
  gi_wp2_with fail
  refine ⟨trivial, ?_⟩
  refine (callsIn_wide.2 (back_any _ _ _ _)).mono ?_
  rintro e w4 ⟨rfl, rfl⟩
  have bW : Below w.heap.size w (w3.alloc (.cells #[.slice wa d.writes.length wcp] 23)) := below_trans (below_trans b0 b3) (below_new _ _)
  have bN := Boxed.new w3 23 (.slice wa d.writes.length wcp)
  have hs3 := b3.size
  have hs4 : w3.heap.size + 1 ≤ (w3.alloc (.cells #[.slice wa d.writes.length wcp] 23)).heap.size := by simp
  have bX : Below wb.heap.size wb (w3.alloc (.cells #[.slice wa d.writes.length wcp] 23)) := below_trans b3 (below_new _ _)
  generalize w3.alloc (.cells #[.slice wa d.writes.length wcp] 23) = W0 at *
  gi_wp2_with fail
  have hI1 : ∀ W', Below W0.heap.size W0 W' → W'.cell? ⟨w3.heap.size, 0, none⟩ = some (.slice wa d.writes.length wcp) := fun W' h' => cell_keep h' bN.cell
  have hI2 : ∀ (i : Fin d.writes.length) W', Below W0.heap.size W0 W' → ∃ b off, wa = some ⟨b, off, none⟩ ∧ W'.cell? ⟨b, off + i.1 * 2, none⟩ = some (.int .i64 (d.writes[i.1].at_)) ∧ W'.cell? ⟨b, off + i.1 * 2 + 1, none⟩ = some (.slice (fa i) d.writes[i.1].data.length (fc i)) := fun i W' h' => by
    obtain ⟨⟨b, off, e, c0, c1⟩, _⟩ := hfs i
    exact ⟨b, off, e, cell_keep (below_trans bW h') c0, cell_keep (below_trans bW h') c1⟩
  refine wpIn_rangeFunc_ownH (α := Fin d.writes.length) rfl (by decide) (gf := 76) (lb := #[.pointer (some ⟨w3.heap.size, 0, none⟩)]) rfl trivial (enters_of Try.func76 (by kernel_rfl) rfl)
    (back_stops (fun i => d.writes[i.1].at_) fa (fun i => d.writes[i.1].data.length) fc w3.heap.size W0.heap.size wa wcp (by omega) (by omega) W0 (Nat.le_refl _) hI1 hI2) belowK_t (belowK_b (Nat.le_refl _)) (Below.refl _ _) (fun _ => rfl)
    (fun pre W => (∀ i ∈ pre, d.writes[i.1].at_ ≠ k) ∧ Below W0.heap.size W0 W)
    (fun c pre W => (c = .ret ∧ ∃ ini i, pre = ini ++ [i] ∧ d.writes[i.1].at_ = k ∧ (∀ j ∈ ini, d.writes[j.1].at_ ≠ k) ∧ ∃ q, OwnPage W w.heap.size (pageV q) (full d.writes[i.1].data) ∧ W.cell? ⟨w.heap.size + 1 + 1, 0, none⟩ = some (pageV q) ∧ W.cell? ⟨w.heap.size + 1 + 1 + 1, 0, none⟩ = some (.int .i64 0)) ∧ Below w.heap.size w W)
    (OwnFrom.and (ownFrom_pure _ _) (ownFrom_below (Nat.le_refl _) (Nat.le_refl _)))
    (fun c => OwnFrom.and (Own.from (fun s A B row hs hg hr => by obtain ⟨hc, ini, i, e1, e2, e3, q, e4, e5, e6⟩ := hs; exact ⟨hc, ini, i, e1, e2, e3, q, e4.kept hg hr, cell_kept e5 hg hr, cell_kept e6 hg hr⟩) _) (ownFrom_below (Nat.le_refl _) (by have := bW.size; omega)))
    ⟨by simp, Below.refl _ _⟩
    (fun x a' W => ∃ b, W.cell? ⟨b, 0, none⟩ = some (.int .i64 d.writes[x.1].at_) ∧ W.cell? ⟨b, 1, none⟩ = some (.slice (fa x) d.writes[x.1].data.length (fc x)) ∧
      a' = { tmps := #[.agg #[.slice pa d.pages.length pc, .slice wa d.writes.length wcp, .bool d.down], .int .i64 k, .pointer (some ⟨w.heap.size, 0, none⟩), .pointer (some ⟨w.heap.size + 1, 0, none⟩), .pointer (some ⟨w.heap.size + 1 + 1, 0, none⟩), .pointer (some ⟨w.heap.size + 1 + 1 + 1, 0, none⟩), .int .i64 0, undef, .pointer (some ⟨b, 0, none⟩),
          .agg #[.slice pa d.pages.length pc, .slice wa d.writes.length wcp, .bool d.down], .int .i64 k, .int .i64 0, .int .i64 0, .bool false, undef, .pointer (some ⟨w.heap.size, 1, none⟩), .slice wa d.writes.length wcp, .func (.func 76) #[] #[.pointer (some ⟨w3.heap.size, 0, none⟩)], .int .i64 (x.1 : Int), .agg #[.int .i64 d.writes[x.1].at_, .slice (fa x) d.writes[x.1].data.length (fc x)], undef, undef, undef, undef, undef, undef, undef, undef, undef, undef, undef, undef, undef, undef, undef, undef, undef, undef, undef], defers := [] })
    (fun x a' => Own.from (fun s A B row hs hg hr => by obtain ⟨b, h1, h2, h4⟩ := hs; exact ⟨b, cell_kept h1 hg hr, cell_kept h2 hg hr, h4⟩) _) ?assign ?body ?done ?stop
  case assign =>
    rintro l pre x W K ⟨hne, hB⟩ hK
    unfold encX
    gi_wp2
    exact hK _ _ ((KeepsOthers.alloc _ _).from _) ((Below.refl _ W).alloc hB.size _) ⟨hne, hB.alloc hB.size _⟩ ⟨W.heap.size, cell_at (heap_alloc_new W _) rfl, cell_at (heap_alloc_new W _) rfl, rfl⟩
  case body =>
    rintro l pre x a' W hl hr ⟨hne, hB⟩ ⟨b, c0, c1, rfl⟩ hlt
    have hBw := below_trans bW hB
    have z1 : W.cell? ⟨w.heap.size + 1, 0, none⟩ = some (.int .i64 k) := cell_at (block_keep x1 (below_trans bX hB)) rfl
    have x2' := block_keep x2 (below_trans bX hB)
    have x3' := block_keep x3 (below_trans bX hB)
    by_cases he : d.writes[x.1].at_ = k
    · have hq : (d.writes[x.1].at_ == k) = true := by rw [he]; exact beq_self_eq_true _
      have HE := Lib.hid he
      clear he
      obtain ⟨-, hbx⟩ := hfs x
      gi_wp2_with fail
      refine ⟨trivial, ?_⟩
      refine (CallsIn.inRound l (callsIn_wide.2 (full_any _ d.writes[x.1].data _ (hbx.keep hBw)))).mono ?_
      rintro e w5 ⟨u, rfl, hu, b5⟩
      obtain ⟨q, rfl, hq1, hq2, hq3⟩ := hu
      have z2 : w5.cell? ⟨w.heap.size + 1 + 1, 0, none⟩ = some (.slice none 0 0) := cell_at (block_keep x2' b5) rfl
      have z3 : w5.cell? ⟨w.heap.size + 1 + 1 + 1, 0, none⟩ = some (.int .i64 0) := cell_at (block_keep x3' b5) rfl
      have f2 : w5.frozen? ⟨w.heap.size + 1 + 1, 0, none⟩ = false := free_at (block_keep x2' b5)
      have f3 : w5.frozen? ⟨w.heap.size + 1 + 1 + 1, 0, none⟩ = false := free_at (block_keep x3' b5)
      gi_wp2
      have hs5 := b5.size
      have hsB := hB.size
      refine ⟨?_, ⟨rfl, pre, x, rfl, HE.out, hne, q, ?_, ?_, ?_⟩, ?_⟩
      · exact ((keepsFrom_below b5).trans ((KeepsOthers.setCell _ _ _).from _)).trans ((KeepsOthers.setCell _ _ _).from _)
      · exact OwnPage.mono (OwnPage.store (OwnPage.store (base := W.heap.size) ⟨q, rfl, hq1, hq2, hq3⟩ (p := ⟨w.heap.size + 1 + 1, 0, none⟩) (by simp; omega) _) (p := ⟨w.heap.size + 1 + 1 + 1, 0, none⟩) (by simp; omega) _) (by omega)
      · refine (World.cell?_of_block (Below.heap_setCell _ _ _ _ (by simp))).trans (World.cell?_setCell_same' _ _ _ (by rw [z2]; rfl))
      · exact World.cell?_setCell_same' _ _ _ (by rw [(World.cell?_of_block (w := w5) (Below.heap_setCell _ _ _ _ (by simp))).trans z3]; rfl)
      · exact ((below_trans hBw b5).setCell (p := ⟨w.heap.size + 1 + 1, 0, none⟩) (by simp; omega) _).setCell (p := ⟨w.heap.size + 1 + 1 + 1, 0, none⟩) (by simp; omega) _
    · have hq := ne_beq he
      gi_wp2
      exact ⟨KeepsFrom.refl _ _, Below.refl _ _, fun i hi => (List.mem_append.1 hi).elim (hne i) (fun e => by simp at e; subst e; exact he), hB⟩
  case done =>
    rintro D ys W hD rfl ⟨hne, hB⟩ hK
    have hmiss := look_miss (d := d) (k := k) fun j hj => hne ⟨j, hj⟩ (mem_down.2 (Nat.zero_le _))
    have HM := Lib.hid hmiss
    clear hmiss hne
    obtain ⟨kn, hkn⟩ : ∃ kn : Nat, k = kn := ⟨k.toNat, by omega⟩
    subst hkn
    have hBw := below_trans bW hB
    have x0' := block_keep x0 (below_trans bX hB)
    have x2' := block_keep x2 (below_trans bX hB)
    have x3' := block_keep x3 (below_trans bX hB)
    have z1 : W.cell? ⟨w.heap.size + 1, 0, none⟩ = some (.int .i64 kn) := cell_at (block_keep x1 (below_trans bX hB)) rfl
    obtain ⟨y0, y1, y2, -, -, -⟩ := Box3.of x0'
    have fin : ∀ (w5 : World) (q : Nat) (l : List UInt8), OwnPage w5 W.heap.size (pageV q) l → Below W.heap.size W w5 → look d kn = l → w5.cell? ⟨w.heap.size + 1 + 1, 0, none⟩ = some (.slice none 0 0) → w5.cell? ⟨w.heap.size + 1 + 1 + 1, 0, none⟩ = some (.int .i64 0) →
        ∃ (w7 : World), w7 = (w5.setCell ⟨w.heap.size + 1 + 1, 0, none⟩ (pageV q)).setCell ⟨w.heap.size + 1 + 1 + 1, 0, none⟩ (.int .i64 0) ∧ w7.heap[D]? = some (.deferred (some [])) ∧ (w7.putObj D (.deferred none)).cell? ⟨w.heap.size + 1 + 1, 0, none⟩ = some (pageV q) ∧ (w7.putObj D (.deferred none)).cell? ⟨w.heap.size + 1 + 1 + 1, 0, none⟩ = some (.int .i64 0) ∧
          IsBytes (w7.putObj D (.deferred none)) (pageV q) (look d kn) ∧ Below w.heap.size w (w7.putObj D (.deferred none)) := by
      intro w5 q l hO b5 hl z2 z3
      refine ⟨_, rfl, ?_⟩
      have hs5 := b5.size
      have hsB := hB.size
      have hK5 := (KeepsOthers.setCell (w5.setCell ⟨w.heap.size + 1 + 1, 0, none⟩ (pageV q)) ⟨w.heap.size + 1 + 1 + 1, 0, none⟩ (.int .i64 0)).same D _ ((KeepsOthers.setCell w5 ⟨w.heap.size + 1 + 1, 0, none⟩ (pageV q)).same D _ (block_keep hK b5) rfl) rfl
      have c2 : ((w5.setCell ⟨w.heap.size + 1 + 1, 0, none⟩ (pageV q)).setCell ⟨w.heap.size + 1 + 1 + 1, 0, none⟩ (.int .i64 0)).cell? ⟨w.heap.size + 1 + 1, 0, none⟩ = some (pageV q) := (World.cell?_of_block (Below.heap_setCell _ _ _ _ (by simp))).trans (World.cell?_setCell_same' _ _ _ (by rw [z2]; rfl))
      have c3 : ((w5.setCell ⟨w.heap.size + 1 + 1, 0, none⟩ (pageV q)).setCell ⟨w.heap.size + 1 + 1 + 1, 0, none⟩ (.int .i64 0)).cell? ⟨w.heap.size + 1 + 1 + 1, 0, none⟩ = some (.int .i64 0) := World.cell?_setCell_same' _ _ _ (by rw [(World.cell?_of_block (w := w5) (Below.heap_setCell _ _ _ _ (by simp))).trans z3]; rfl)
      have hr : ∀ r, some D = some r → ∃ o : Obj, ((w5.setCell ⟨w.heap.size + 1 + 1, 0, none⟩ (pageV q)).setCell ⟨w.heap.size + 1 + 1 + 1, 0, none⟩ (.int .i64 0)).heap[r]? = some o ∧ o.isCells = false := fun r e => by cases e; exact ⟨_, hK5, rfl⟩
      have hg := grownBy_putObj' ((w5.setCell ⟨w.heap.size + 1 + 1, 0, none⟩ (pageV q)).setCell ⟨w.heap.size + 1 + 1 + 1, 0, none⟩ (.int .i64 0)) D (.deferred none)
      refine ⟨hK5, cell_kept c2 hg hr, cell_kept c3 hg hr, ?_, ?_⟩
      · rw [hl]
        exact ((OwnPage.store (OwnPage.store hO (p := ⟨w.heap.size + 1 + 1, 0, none⟩) (by simp; omega) _) (p := ⟨w.heap.size + 1 + 1 + 1, 0, none⟩) (by simp; omega) _).kept hg hr).bytes
      · exact (((below_trans hBw b5).setCell (p := ⟨w.heap.size + 1 + 1, 0, none⟩) (by simp; omega) _).setCell (p := ⟨w.heap.size + 1 + 1 + 1, 0, none⟩) (by simp; omega) _).trans (belowK_b (w := w) (Nat.le_refl _) _ D _ _ (by have := bW.size; omega) hK5 rfl rfl)
    by_cases hkp : kn < d.pages.length
    · have HL := Lib.hid (show look d kn = full d.pages[kn] by rw [HM.out, if_pos (by omega), List.getD_eq_getElem?_getD, Int.toNat_natCast, List.getElem?_eq_getElem hkp]; rfl)
      obtain ⟨b, off, qa, qc, rfl, hc, hB2⟩ := hp.at_ (List.getElem?_eq_getElem hkp)
      generalize d.pages[kn] = l at *
      have hc' := cell_keep hBw hc
      have HI1 : (0 : Int) ≤ (kn : Int) := by omega
      have HI2 : (kn : Int) < (d.pages.length : Int) := by omega
      have hdd : decide ((kn : Int) < (d.pages.length : Int)) = true := decide_eq_true HI2
      clear hc
      gi_wp2_with fail
      refine ⟨trivial, ?_⟩
      refine (callsIn_wide.2 (full_any _ l _ (hB2.keep hBw))).mono ?_
      rintro e w5 ⟨u, rfl, hu, b5⟩
      obtain ⟨q, rfl, hq1, hq2, hq3⟩ := hu
      have z2 : w5.cell? ⟨w.heap.size + 1 + 1, 0, none⟩ = some (.slice none 0 0) := cell_at (block_keep x2' b5) rfl
      have z3 : w5.cell? ⟨w.heap.size + 1 + 1 + 1, 0, none⟩ = some (.int .i64 0) := cell_at (block_keep x3' b5) rfl
      have f2 : w5.frozen? ⟨w.heap.size + 1 + 1, 0, none⟩ = false := free_at (block_keep x2' b5)
      have f3 : w5.frozen? ⟨w.heap.size + 1 + 1 + 1, 0, none⟩ = false := free_at (block_keep x3' b5)
      have HFIN := Lib.hid (fin w5 q (full l) ⟨q, rfl, hq1, hq2, hq3⟩ b5 HL.out z2 z3)
      clear fin
      gi_wp2
      obtain ⟨w7, hw7, k1, k2, k3, k4, k5⟩ := HFIN.out
      unfold pageV at hw7 k2 k4
      rw [← hw7]
      refine ⟨by simp, .inl ⟨_, _, rfl, run_takeDeferred k1, ?_⟩⟩
      refine ⟨.tuple #[.slice (some ⟨q, 0, none⟩) 64 64, .int .i64 0], ?_, _, by rw [H.out], by rw [H.out]; exact k4, k5⟩
      simp [results, Try.f24, go_sem, k2, k3]
    · have HL := Lib.hid (show look d kn = full [] by rw [HM.out, if_neg (by omega)])
      have hdd : decide ((kn : Int) < (d.pages.length : Int)) = false := decide_eq_false (by omega)
      gi_wp2_with fail
      refine ⟨trivial, ?_⟩
      refine (callsIn_wide.2 (full_any _ [] _ (IsBytes.nil _))).mono ?_
      rintro e w5 ⟨u, rfl, hu, b5⟩
      obtain ⟨q, rfl, hq1, hq2, hq3⟩ := hu
      have z2 : w5.cell? ⟨w.heap.size + 1 + 1, 0, none⟩ = some (.slice none 0 0) := cell_at (block_keep x2' b5) rfl
      have z3 : w5.cell? ⟨w.heap.size + 1 + 1 + 1, 0, none⟩ = some (.int .i64 0) := cell_at (block_keep x3' b5) rfl
      have f2 : w5.frozen? ⟨w.heap.size + 1 + 1, 0, none⟩ = false := free_at (block_keep x2' b5)
      have f3 : w5.frozen? ⟨w.heap.size + 1 + 1 + 1, 0, none⟩ = false := free_at (block_keep x3' b5)
      have HFIN := Lib.hid (fin w5 q (full []) ⟨q, rfl, hq1, hq2, hq3⟩ b5 HL.out z2 z3)
      clear fin
      gi_wp2
      obtain ⟨w7, hw7, k1, k2, k3, k4, k5⟩ := HFIN.out
      unfold pageV at hw7 k2 k4
      rw [← hw7]
      refine ⟨by simp, .inl ⟨_, _, rfl, run_takeDeferred k1, ?_⟩⟩
      refine ⟨.tuple #[.slice (some ⟨q, 0, none⟩) 64 64, .int .i64 0], ?_, _, by rw [H.out], by rw [H.out]; exact k4, k5⟩
      simp [results, Try.f24, go_sem, k2, k3]
  case stop =>
    rintro D c pre W hD ⟨j, hj, rfl⟩ ⟨⟨rfl, ini, i, e1, e2, e3, q, e4, e5, e6⟩, hB⟩ hK
    have hij : ini = down d.writes.length (j + 1) ∧ i = ⟨j, hj⟩ := by
      rw [down_succ hj] at e1
      obtain ⟨h1, h2⟩ := List.append_inj' e1 rfl
      exact ⟨h1.symm, by simpa using h2.symm⟩
    obtain ⟨rfl, rfl⟩ := hij
    have HL := Lib.hid (look_hit (d := d) (k := k) hj e2 fun m hm hjm => e3 ⟨m, hm⟩ (mem_down.2 hjm))
    have hr : ∀ r, some D = some r → ∃ o : Obj, W.heap[r]? = some o ∧ o.isCells = false := fun r e => by cases e; exact ⟨_, hK, rfl⟩
    have hg : W.grownBy (W.putObj D (.deferred none)) (some D) := grownBy_putObj' W D (.deferred none)
    have k2 := cell_kept e5 hg hr
    have k3 := cell_kept e6 hg hr
    have k4 := (e4.kept hg hr).bytes
    have k5 : Below w.heap.size w (W.putObj D (.deferred none)) := hB.trans (belowK_b (w := w) (Nat.le_refl _) W D _ _ (by have := bW.size; omega) hK rfl rfl)
    clear e1 e2 e3
    gi_wp2
    unfold pageV at k2 k4
    refine ⟨by simp, .inl ⟨_, _, rfl, run_takeDeferred hK, ?_⟩⟩
    refine ⟨.tuple #[.slice (some ⟨q, 0, none⟩) 64 64, .int .i64 0], ?_, _, by rw [H.out], by rw [H.out, HL.out]; exact k4, k5⟩
    simp [results, Try.f24, go_sem, k2, k3]
theorem Read_any (v : Value) (d : Dk) (k : Int) (w : World) (h : IsDisk w v d) : Calls Try.prog 24 #[v, .int .i64 k] w (BytesErr (readD d k) w) := by
  by_cases hf : failure d k = 0
  · exact callsIn_wide.1 (Read_in v d k w h hf)
  · exact Read_err v d k w h hf
end Go.Proofs.Ytcembocnkndlhaa
/- The laws' helpers: fine, page, begins. -/
namespace Go.Proofs.Ytcembocnkndlhaa
open Go.RowKit
def fineD (d : Dk) : Bool := smallD d && formed d && !d.down
set_option maxHeartbeats 4000000 in
set_option maxRecDepth 100000 in
theorem fine_any (v : Value) (d : Dk) (w : World) (h : IsDisk w v d) :
    Calls Try.prog 33 #[v] w fun e w' => e = .returned (.bool (fineD d)) ∧ Below w.heap.size w w' := by
  have h0 := h
  obtain ⟨pa, pc, wa, wc, rfl, -, -, m1, m2, m3⟩ := h.shape
  obtain ⟨C, hC⟩ : ∃ C, C = Obj.cells #[.slice pa d.pages.length pc, .slice wa d.writes.length wc, .bool d.down] 25 := ⟨_, rfl⟩
  obtain ⟨wb, hwb⟩ : ∃ x : World, x = w.alloc C := ⟨_, rfl⟩
  have b0 : Below w.heap.size w wb := by subst hwb; exact below_new _ _
  have g0 : wb.heap[w.heap.size]? = some (.cells #[.slice pa d.pages.length pc, .slice wa d.writes.length wc, .bool d.down] 25 (0, 0)) := by
    subst hC hwb; exact heap_alloc_new _ _
  cases hs : smallD d
  · have H := Lib.hid (show fineD d = false by unfold fineD; rw [hs]; rfl)
    have HS := Lib.hid hs
    clear hs
    go_enter Try.func33, Try.ntmps33
    go_wp2_with fail
    rw [← hC, ← hwb]
    refine (Small_eq (h0.keep b0) _ HS.out).mono ?_
    rintro e w3 ⟨rfl, b3⟩
    go_wp2
    go_ret
    exact ⟨by rw [H.out]; rfl, below_trans b0 b3⟩
  cases hf : formed d
  · have H := Lib.hid (show fineD d = false by unfold fineD; rw [hf]; simp)
    have HS := Lib.hid hs
    have HF := Lib.hid hf
    clear hs hf
    go_enter Try.func33, Try.ntmps33
    go_wp2_with fail
    rw [← hC, ← hwb]
    refine (Small_eq (h0.keep b0) _ HS.out).mono ?_
    rintro e w3 ⟨rfl, b3⟩
    obtain ⟨y0, y1, y2, -, -, -⟩ := Box3.of (block_keep g0 b3)
    go_wp2_with fail
    refine (rformed_eq (h0.keep (below_trans b0 b3)) _ HF.out).mono ?_
    rintro e w4 ⟨rfl, b4⟩
    go_wp2
    go_ret
    exact ⟨by rw [H.out]; rfl, below_trans (below_trans b0 b3) b4⟩
  · have H := Lib.hid (show fineD d = !d.down by unfold fineD; rw [hf, hs]; simp)
    have HS := Lib.hid hs
    have HF := Lib.hid hf
    clear hs hf
    go_enter Try.func33, Try.ntmps33
    go_wp2_with fail
    rw [← hC, ← hwb]
    refine (Small_eq (h0.keep b0) _ HS.out).mono ?_
    rintro e w3 ⟨rfl, b3⟩
    obtain ⟨y0, y1, y2, -, -, -⟩ := Box3.of (block_keep g0 b3)
    go_wp2_with fail
    refine (rformed_eq (h0.keep (below_trans b0 b3)) _ HF.out).mono ?_
    rintro e w4 ⟨rfl, b4⟩
    clear y0 y1 y2
    obtain ⟨y0, y1, y2, -, -, -⟩ := Box3.of (block_keep (block_keep g0 b3) b4)
    go_wp2
    go_ret
    exact ⟨by rw [H.out]; rfl, below_trans (below_trans b0 b3) b4⟩
theorem fine_eq {v : Value} {d : Dk} {w : World} (h : IsDisk w v d) (b : Bool) (hb : fineD d = b) :
    Calls Try.prog 33 #[v] w fun e w' => e = .returned (.bool b) ∧ Below w.heap.size w w' := by
  subst hb; exact fine_any v d w h
/-- What page hands back. -/
def BytesRet (l : List UInt8) (w : World) (e : Ending) (w' : World) : Prop := ∃ a c, e = .returned (.slice a l.length c) ∧ IsBytes w' (.slice a l.length c) l ∧ Below w.heap.size w w'
theorem page_any (v : Value) (d : Dk) (k : Int) (w : World) (h : IsDisk w v d) : Calls Try.prog 34 #[v, .int .i64 k] w (BytesRet (readD d k).1 w) := by
  have h0 := h
  obtain ⟨pa, pc, wa, wc, rfl, -, -, m1, m2, m3⟩ := h.shape
  obtain ⟨C, hC⟩ : ∃ C, C = Obj.cells #[.slice pa d.pages.length pc, .slice wa d.writes.length wc, .bool d.down] 25 := ⟨_, rfl⟩
  obtain ⟨wb, hwb⟩ : ∃ x : World, x = w.alloc C := ⟨_, rfl⟩
  have b0 : Below w.heap.size w wb := by subst hwb; exact below_new _ _
  go_enter Try.func34, Try.ntmps34
  go_wp2_with fail
  rw [← hC, ← hwb]
  refine (Read_any _ d k _ (h0.keep b0)).mono ?_
  rintro e w3 ⟨u, rfl, hB, b3⟩
  obtain ⟨a, c, rfl, hm⟩ := id hB
  go_wp2
  go_ret
  exact ⟨a, c, rfl, hB, below_trans b0 b3⟩
theorem begins_any (va vb : Value) (a b : List UInt8) (w : World) (ha : IsBytes w va a) (hb : IsBytes w vb b) (hl : b.length ≤ 64) :
    Calls Try.prog 55 #[va, vb] w fun e w' => e = .returned (.bool (decide (a = full b))) ∧ Below w.heap.size w w' := by
  rw [full_rfull hl]
  go_enter Try.func55, Try.ntmps55
  go_wp2_with fail
  refine rFull_ts hb (by omega) ?_
  intro g c w3 hF b3
  go_wp2_with fail
  refine (SameBytes_any _ _ a (rfull b) _ (ha.keep b3) (OwnB.is hF (by simp [rfull, zeros]; omega))).mono ?_
  rintro e w4 ⟨rfl, n, rfl⟩
  go_wp2
  go_ret
  exact ⟨rfl, below_drewN b3 n⟩
end Go.Proofs.Ytcembocnkndlhaa
/- The contracts taken apart, boxes. -/
namespace Go.Proofs.Ytcembocnkndlhaa
open Go.RowKit
/-- A disk's value by its parts. -/
def diskV (pa : Option Addr) (pn pc : Nat) (wa : Option Addr) (wn wc : Nat) (dn : Bool) : Value := .agg #[.slice pa pn pc, .slice wa wn wc, .bool dn]
theorem DiskErr.to {d' : Dk} {r : Int} {res : Dk × Int} {w w' : World} {e : Ending} (h : DiskErr res w e w') (hr : Hid (res = (d', r))) : ∃ pa pc wa wc, e = .returned (.tuple #[.agg #[.slice pa d'.pages.length pc, .slice wa d'.writes.length wc, .bool d'.down], .int .i64 r]) ∧ IsDisk w' (.agg #[.slice pa d'.pages.length pc, .slice wa d'.writes.length wc, .bool d'.down]) d' ∧ Below w.heap.size w w' := by
  obtain ⟨v, rfl, hD, hB⟩ := h
  rw [hr.out] at hD ⊢
  dsimp only at hD ⊢
  obtain ⟨pa, pc, wa, wc, rfl, _⟩ := hD.shape
  exact ⟨pa, pc, wa, wc, rfl, hD, hB⟩
theorem DiskRet.to {d d' : Dk} {w w' : World} {e : Ending} (h : DiskRet d w e w') (hr : Hid (d = d')) : ∃ pa pc wa wc, e = .returned (.agg #[.slice pa d'.pages.length pc, .slice wa d'.writes.length wc, .bool d'.down]) ∧ IsDisk w' (.agg #[.slice pa d'.pages.length pc, .slice wa d'.writes.length wc, .bool d'.down]) d' ∧ Below w.heap.size w w' := by
  obtain ⟨v, rfl, hD, hB⟩ := h
  rw [hr.out] at hD
  obtain ⟨pa, pc, wa, wc, rfl, _⟩ := hD.shape
  exact ⟨pa, pc, wa, wc, rfl, hD, hB⟩
theorem BytesErr.to {l : List UInt8} {r : Int} {res : List UInt8 × Int} {w w' : World} {e : Ending} (h : BytesErr res w e w') (hr : Hid (res = (l, r))) : ∃ a c, e = .returned (.tuple #[.slice a l.length c, .int .i64 r]) ∧ IsBytes w' (.slice a l.length c) l ∧ Below w.heap.size w w' := by
  obtain ⟨v, rfl, hD, hB⟩ := h
  rw [hr.out] at hD ⊢
  dsimp only at hD ⊢
  obtain ⟨a, c, rfl, _⟩ := id hD
  exact ⟨a, c, rfl, hD, hB⟩
/-- A box that the call makes and fills. -/
theorem box_put (w : World) (a b c x y z : Value) (t : TypeId) : ((((w.alloc (.cells #[a, b, c] t)).setCell ⟨w.heap.size, 0, none⟩ x).setCell ⟨w.heap.size, 1, none⟩ y).setCell ⟨w.heap.size, 2, none⟩ z).heap[w.heap.size]? = some (.cells #[x, y, z] t (0, 0))
    ∧ Below w.heap.size w ((((w.alloc (.cells #[a, b, c] t)).setCell ⟨w.heap.size, 0, none⟩ x).setCell ⟨w.heap.size, 1, none⟩ y).setCell ⟨w.heap.size, 2, none⟩ z) :=
  ⟨Box3.set (heap_alloc_new w _), (((below_new w _).setCell (p := ⟨w.heap.size, 0, none⟩) (by simp) x).setCell (p := ⟨w.heap.size, 1, none⟩) (by simp) y).setCell (p := ⟨w.heap.size, 2, none⟩) (by simp) z⟩
theorem lit_bytes (w : World) (l : List UInt8) (hl : l.length ≤ 9223372036854775807) : IsBytes (w.alloc (.cells (bytesV l).toArray 5)) (.slice (some ⟨w.heap.size, 0, none⟩) l.length l.length) l := by
  refine ⟨_, _, rfl, .inr ⟨w.heap.size, 0, rfl, fun i x hi j u hj => ?_⟩, hl, Nat.le_refl _, hl⟩
  have hj0 : j = 0 := by have := (List.getElem?_eq_some_iff.1 hj).1; simp [encB] at this; exact this
  subst hj0
  refine cell_at (heap_alloc_new w _) ?_
  have : [u] = encB x := by simp [encB] at hj ⊢; exact hj.symm
  simp [encB] at this
  simp [bytesV, hi, this]
end Go.Proofs.Ytcembocnkndlhaa
/- The laws' head: fixed examples. -/
namespace Go.Proofs.Ytcembocnkndlhaa
open Go.RowKit
theorem begins_to {va vb : Value} {a b : List UInt8} {w : World} (ha : IsBytes w va a) (hb : IsBytes w vb b) (hl : b.length ≤ 64) (h : Hid (a = full b)) :
    Calls Try.prog 55 #[va, vb] w fun e w' => e = .returned (.bool true) ∧ Below w.heap.size w w' := by
  have := begins_any va vb a b w ha hb hl
  rwa [decide_eq_true h.out] at this
theorem head_facts : ∃ (d1 c7 d7 c10 d10 d11 d13 c15 r15 d17 d19 : Dk) (l3 l5 l8 l15 : List UInt8), Hid (writeD noDisk 1 [5, 6] = (d1, 0)) ∧ d1.writes.length ≤ 10 ∧ Hid (readD d1 1 = (l3, 0)) ∧ Hid (l3 = full [5, 6]) ∧ Hid (readD d1 0 = (l5, 0)) ∧ Hid (l5 = full []) ∧ Hid (crashD d1 0 1 = c7) ∧ Hid (restartD c7 = d7) ∧ Hid (readD d7 1 = (l8, 0)) ∧ Hid (l8 = full [5])
    ∧ Hid (crashD d1 0 0 = c10) ∧ Hid (restartD c10 = d10) ∧ Hid (syncD d1 = (d11, 0)) ∧ Hid (writeD d11 1 [7] = (d13, 0)) ∧ d11.writes.length ≤ 10 ∧ Hid (crashD d13 0 1 = c15) ∧ Hid (restartD c15 = r15) ∧ Hid (readD r15 1 = (l15, 0)) ∧ Hid (l15 = full [7, 6])
    ∧ Hid (writeD c10 0 [] = (d17, 350)) ∧ c10.writes.length ≤ 10 ∧ Hid (writeD d1 400 [] = (d19, 1)) ∧ Hid (d10.pages.length = 0) ∧ Hid (d7.pages.length = 2) := by
  refine ⟨(writeD noDisk 1 [5, 6]).1, _, _, _, _, (syncD (writeD noDisk 1 [5, 6]).1).1, (writeD (syncD (writeD noDisk 1 [5, 6]).1).1 1 [7]).1, _, _, (writeD (crashD (writeD noDisk 1 [5, 6]).1 0 0) 0 []).1, (writeD (writeD noDisk 1 [5, 6]).1 400 []).1, (readD (writeD noDisk 1 [5, 6]).1 1).1, (readD (writeD noDisk 1 [5, 6]).1 0).1, (readD (restartD (crashD (writeD noDisk 1 [5, 6]).1 0 1)) 1).1, (readD (restartD (crashD (writeD (syncD (writeD noDisk 1 [5, 6]).1).1 1 [7]).1 0 1)) 1).1,
    Lib.hid (Prod.ext rfl (by decide +kernel)), by decide +kernel, Lib.hid (Prod.ext rfl (by decide +kernel)), Lib.hid (by decide +kernel), Lib.hid (Prod.ext rfl (by decide +kernel)), Lib.hid (by decide +kernel), Lib.hid rfl, Lib.hid rfl, Lib.hid (Prod.ext rfl (by decide +kernel)), Lib.hid (by decide +kernel),
    Lib.hid rfl, Lib.hid rfl, Lib.hid (Prod.ext rfl (by decide +kernel)), Lib.hid (Prod.ext rfl (by decide +kernel)), by decide +kernel, Lib.hid rfl, Lib.hid rfl, Lib.hid (Prod.ext rfl (by decide +kernel)), Lib.hid (by decide +kernel),
    Lib.hid (Prod.ext rfl (by decide +kernel)), by decide +kernel, Lib.hid (Prod.ext rfl (by decide +kernel)), Lib.hid (by decide +kernel), Lib.hid (by decide +kernel)⟩
set_option maxHeartbeats 16000000 in
set_option maxRecDepth 100000 in
theorem head_any (w : World) : Calls Try.prog 17 #[] w fun e w' => e = .returned (.bool true) ∧ Below w.heap.size w w' := by
  obtain ⟨d1, c7, d7, c10, d10, d11, d13, c15, r15, d17, d19, l3, l5, l8, l15, H1, n1, H3, E3, H5, E5, C7, R7, H8, E8, C10, R10, H11, H13, n11, C15, R15, H15, E15, H17, n10, H19, N10, N7⟩ := head_facts
  go_enter Try.func17, Try.ntmps17
  go_wp2_with fail
  refine (New_any _).mono ?_
  intro e w1 hres
  obtain ⟨pa0, pc0, wa0, wc0, rfl, h0, bN⟩ := hres.to (Lib.hid rfl)
  have b0 := bN
  clear bN
  go_wp2_with fail
  have hl : IsBytes (w1.alloc (.cells #[.int .u8 5, .int .u8 6] 5)) (.slice (some ⟨w1.heap.size, 0, none⟩) 2 2) [5, 6] := lit_bytes w1 [5, 6] (by decide)
  refine (Write_any _ noDisk 1 _ [5, 6] _ (h0.keep (below_new _ _)) hl (by decide)).mono ?_
  intro e w2 hres
  obtain ⟨pa1, pc1, wa1, wc1, rfl, h1, bN⟩ := hres.to H1
  clear hl
  replace bN := below_trans (below_new w1 (.cells #[.int .u8 5, .int .u8 6] 5)) bN
  replace h0 := h0.keep bN
  replace b0 := below_trans b0 bN
  clear bN
  obtain ⟨w3, hB1⟩ : ∃ x : World, x = w2.alloc (.cells #[(.slice pa1 d1.pages.length pc1), (.slice wa1 d1.writes.length wc1), (.bool d1.down)] 25) := ⟨_, rfl⟩
  have bp : _ ∧ _ := ⟨heap_alloc_new w2 (.cells #[(.slice pa1 d1.pages.length pc1), (.slice wa1 d1.writes.length wc1), (.bool d1.down)] 25), below_new w2 (.cells #[(.slice pa1 d1.pages.length pc1), (.slice wa1 d1.writes.length wc1), (.bool d1.down)] 25)⟩
  rw [← hB1] at bp
  obtain ⟨g1, bN⟩ := bp
  replace h0 := h0.keep bN
  replace h1 := h1.keep bN
  replace b0 := below_trans b0 bN
  clear bN
  go_upto_region 2 with fail
  rw [← hB1]
  clear hB1
  obtain ⟨y0, y1, y2, -, -, -⟩ := Box3.of g1
  go_wp2_with fail
  refine (Read_any _ d1 1 _ h1).mono ?_
  intro e w4 hres
  obtain ⟨pa3, pc3, rfl, t3, bN⟩ := hres.to H3
  clear y0 y1 y2
  replace g1 := block_keep g1 bN
  replace h0 := h0.keep bN
  replace h1 := h1.keep bN
  replace b0 := below_trans b0 bN
  clear bN
  obtain ⟨y0, y1, y2, -, -, -⟩ := Box3.of g1
  go_wp2_with fail
  refine (Read_any _ d1 0 _ h1).mono ?_
  intro e w5 hres
  obtain ⟨pa5, pc5, rfl, t5, bN⟩ := hres.to H5
  clear y0 y1 y2
  replace g1 := block_keep g1 bN
  replace h0 := h0.keep bN
  replace h1 := h1.keep bN
  replace t3 := t3.keep bN
  replace b0 := below_trans b0 bN
  clear bN
  obtain ⟨y0, y1, y2, -, -, -⟩ := Box3.of g1
  go_wp2_with fail
  refine (Crash_any _ d1 0 1 _ h1).mono ?_
  intro e w6 hres
  obtain ⟨pa6, pc6, wa6, wc6, rfl, h6, bN⟩ := hres.to C7
  clear y0 y1 y2
  replace g1 := block_keep g1 bN
  replace h0 := h0.keep bN
  replace h1 := h1.keep bN
  replace t3 := t3.keep bN
  replace t5 := t5.keep bN
  replace b0 := below_trans b0 bN
  clear bN
  go_wp2_with fail
  refine (Restart_any _ c7 _ h6).mono ?_
  intro e w7 hres
  obtain ⟨pa7, pc7, wa7, wc7, rfl, h7, bN⟩ := hres.to R7
  replace g1 := block_keep g1 bN
  replace h0 := h0.keep bN
  replace h1 := h1.keep bN
  replace h6 := h6.keep bN
  replace t3 := t3.keep bN
  replace t5 := t5.keep bN
  replace b0 := below_trans b0 bN
  clear bN
  obtain ⟨w8, hB7⟩ : ∃ x : World, x = w7.alloc (.cells #[(.slice pa7 d7.pages.length pc7), (.slice wa7 d7.writes.length wc7), (.bool d7.down)] 25) := ⟨_, rfl⟩
  have bp : _ ∧ _ := ⟨heap_alloc_new w7 (.cells #[(.slice pa7 d7.pages.length pc7), (.slice wa7 d7.writes.length wc7), (.bool d7.down)] 25), below_new w7 (.cells #[(.slice pa7 d7.pages.length pc7), (.slice wa7 d7.writes.length wc7), (.bool d7.down)] 25)⟩
  rw [← hB7] at bp
  obtain ⟨g7, bN⟩ := bp
  replace g1 := block_keep g1 bN
  replace h0 := h0.keep bN
  replace h1 := h1.keep bN
  replace h6 := h6.keep bN
  replace h7 := h7.keep bN
  replace t3 := t3.keep bN
  replace t5 := t5.keep bN
  replace b0 := below_trans b0 bN
  clear bN
  go_upto_region 5 with fail
  rw [← hB7]
  clear hB7
  obtain ⟨y0, y1, y2, -, -, -⟩ := Box3.of g7
  go_wp2_with fail
  refine (Read_any _ d7 1 _ h7).mono ?_
  intro e w9 hres
  obtain ⟨pa8, pc8, rfl, t8, bN⟩ := hres.to H8
  clear y0 y1 y2
  replace g1 := block_keep g1 bN
  replace g7 := block_keep g7 bN
  replace h0 := h0.keep bN
  replace h1 := h1.keep bN
  replace h6 := h6.keep bN
  replace h7 := h7.keep bN
  replace t3 := t3.keep bN
  replace t5 := t5.keep bN
  replace b0 := below_trans b0 bN
  clear bN
  obtain ⟨y0, y1, y2, -, -, -⟩ := Box3.of g1
  go_wp2_with fail
  refine (Crash_any _ d1 0 0 _ h1).mono ?_
  intro e w10 hres
  obtain ⟨pa9, pc9, wa9, wc9, rfl, h9, bN⟩ := hres.to C10
  clear y0 y1 y2
  replace g1 := block_keep g1 bN
  replace g7 := block_keep g7 bN
  replace h0 := h0.keep bN
  replace h1 := h1.keep bN
  replace h6 := h6.keep bN
  replace h7 := h7.keep bN
  replace t3 := t3.keep bN
  replace t5 := t5.keep bN
  replace t8 := t8.keep bN
  replace b0 := below_trans b0 bN
  clear bN
  go_wp2_with fail
  refine (Restart_any _ c10 _ h9).mono ?_
  intro e w11 hres
  obtain ⟨pa10, pc10, wa10, wc10, rfl, h10, bN⟩ := hres.to R10
  replace g1 := block_keep g1 bN
  replace g7 := block_keep g7 bN
  replace h0 := h0.keep bN
  replace h1 := h1.keep bN
  replace h6 := h6.keep bN
  replace h7 := h7.keep bN
  replace h9 := h9.keep bN
  replace t3 := t3.keep bN
  replace t5 := t5.keep bN
  replace t8 := t8.keep bN
  replace b0 := below_trans b0 bN
  clear bN
  obtain ⟨w12, hB10⟩ : ∃ x : World, x = w11.alloc (.cells #[(.slice pa10 d10.pages.length pc10), (.slice wa10 d10.writes.length wc10), (.bool d10.down)] 25) := ⟨_, rfl⟩
  have bp : _ ∧ _ := ⟨heap_alloc_new w11 (.cells #[(.slice pa10 d10.pages.length pc10), (.slice wa10 d10.writes.length wc10), (.bool d10.down)] 25), below_new w11 (.cells #[(.slice pa10 d10.pages.length pc10), (.slice wa10 d10.writes.length wc10), (.bool d10.down)] 25)⟩
  rw [← hB10] at bp
  obtain ⟨g10, bN⟩ := bp
  replace g1 := block_keep g1 bN
  replace g7 := block_keep g7 bN
  replace h0 := h0.keep bN
  replace h1 := h1.keep bN
  replace h6 := h6.keep bN
  replace h7 := h7.keep bN
  replace h9 := h9.keep bN
  replace h10 := h10.keep bN
  replace t3 := t3.keep bN
  replace t5 := t5.keep bN
  replace t8 := t8.keep bN
  replace b0 := below_trans b0 bN
  clear bN
  go_upto_region 7 with fail
  rw [← hB10]
  clear hB10
  obtain ⟨y0, y1, y2, -, -, -⟩ := Box3.of g1
  go_wp2_with fail
  refine (Sync_any _ d1 _ h1).mono ?_
  intro e w13 hres
  obtain ⟨pa11, pc11, wa11, wc11, rfl, h11, bN⟩ := hres.to H11
  clear y0 y1 y2
  replace g1 := block_keep g1 bN
  replace g7 := block_keep g7 bN
  replace g10 := block_keep g10 bN
  replace h0 := h0.keep bN
  replace h1 := h1.keep bN
  replace h6 := h6.keep bN
  replace h7 := h7.keep bN
  replace h9 := h9.keep bN
  replace h10 := h10.keep bN
  replace t3 := t3.keep bN
  replace t5 := t5.keep bN
  replace t8 := t8.keep bN
  replace b0 := below_trans b0 bN
  clear bN
  obtain ⟨w14, hB11⟩ : ∃ x : World, x = w13.alloc (.cells #[(.slice pa11 d11.pages.length pc11), (.slice wa11 d11.writes.length wc11), (.bool d11.down)] 25) := ⟨_, rfl⟩
  have bp : _ ∧ _ := ⟨heap_alloc_new w13 (.cells #[(.slice pa11 d11.pages.length pc11), (.slice wa11 d11.writes.length wc11), (.bool d11.down)] 25), below_new w13 (.cells #[(.slice pa11 d11.pages.length pc11), (.slice wa11 d11.writes.length wc11), (.bool d11.down)] 25)⟩
  rw [← hB11] at bp
  obtain ⟨g11, bN⟩ := bp
  replace g1 := block_keep g1 bN
  replace g7 := block_keep g7 bN
  replace g10 := block_keep g10 bN
  replace h0 := h0.keep bN
  replace h1 := h1.keep bN
  replace h6 := h6.keep bN
  replace h7 := h7.keep bN
  replace h9 := h9.keep bN
  replace h10 := h10.keep bN
  replace h11 := h11.keep bN
  replace t3 := t3.keep bN
  replace t5 := t5.keep bN
  replace t8 := t8.keep bN
  replace b0 := below_trans b0 bN
  clear bN
  go_upto_region 8 with fail
  rw [← hB11]
  clear hB11
  obtain ⟨y0, y1, y2, -, -, -⟩ := Box3.of g11
  go_wp2_with fail
  have hl : IsBytes (w14.alloc (.cells #[.int .u8 7] 5)) (.slice (some ⟨w14.heap.size, 0, none⟩) 1 1) [7] := lit_bytes w14 [7] (by decide)
  refine (Write_any _ d11 1 _ [7] _ (h11.keep (below_new _ _)) hl (by omega)).mono ?_
  intro e w15 hres
  obtain ⟨pa13, pc13, wa13, wc13, rfl, h13, bN⟩ := hres.to H13
  clear y0 y1 y2
  clear hl
  replace bN := below_trans (below_new w14 (.cells #[.int .u8 7] 5)) bN
  replace g1 := block_keep g1 bN
  replace g7 := block_keep g7 bN
  replace g10 := block_keep g10 bN
  replace g11 := block_keep g11 bN
  replace h0 := h0.keep bN
  replace h1 := h1.keep bN
  replace h6 := h6.keep bN
  replace h7 := h7.keep bN
  replace h9 := h9.keep bN
  replace h10 := h10.keep bN
  replace h11 := h11.keep bN
  replace t3 := t3.keep bN
  replace t5 := t5.keep bN
  replace t8 := t8.keep bN
  replace b0 := below_trans b0 bN
  clear bN
  obtain ⟨w16, hB13⟩ : ∃ x : World, x = w15.alloc (.cells #[(.slice pa13 d13.pages.length pc13), (.slice wa13 d13.writes.length wc13), (.bool d13.down)] 25) := ⟨_, rfl⟩
  have bp : _ ∧ _ := ⟨heap_alloc_new w15 (.cells #[(.slice pa13 d13.pages.length pc13), (.slice wa13 d13.writes.length wc13), (.bool d13.down)] 25), below_new w15 (.cells #[(.slice pa13 d13.pages.length pc13), (.slice wa13 d13.writes.length wc13), (.bool d13.down)] 25)⟩
  rw [← hB13] at bp
  obtain ⟨g13, bN⟩ := bp
  replace g1 := block_keep g1 bN
  replace g7 := block_keep g7 bN
  replace g10 := block_keep g10 bN
  replace g11 := block_keep g11 bN
  replace h0 := h0.keep bN
  replace h1 := h1.keep bN
  replace h6 := h6.keep bN
  replace h7 := h7.keep bN
  replace h9 := h9.keep bN
  replace h10 := h10.keep bN
  replace h11 := h11.keep bN
  replace h13 := h13.keep bN
  replace t3 := t3.keep bN
  replace t5 := t5.keep bN
  replace t8 := t8.keep bN
  replace b0 := below_trans b0 bN
  clear bN
  go_upto_region 9 with fail
  rw [← hB13]
  clear hB13
  obtain ⟨y0, y1, y2, -, -, -⟩ := Box3.of g13
  go_wp2_with fail
  refine (Crash_any _ d13 0 1 _ h13).mono ?_
  intro e w17 hres
  obtain ⟨pa14, pc14, wa14, wc14, rfl, h14, bN⟩ := hres.to C15
  clear y0 y1 y2
  replace g1 := block_keep g1 bN
  replace g7 := block_keep g7 bN
  replace g10 := block_keep g10 bN
  replace g11 := block_keep g11 bN
  replace g13 := block_keep g13 bN
  replace h0 := h0.keep bN
  replace h1 := h1.keep bN
  replace h6 := h6.keep bN
  replace h7 := h7.keep bN
  replace h9 := h9.keep bN
  replace h10 := h10.keep bN
  replace h11 := h11.keep bN
  replace h13 := h13.keep bN
  replace t3 := t3.keep bN
  replace t5 := t5.keep bN
  replace t8 := t8.keep bN
  replace b0 := below_trans b0 bN
  clear bN
  go_wp2_with fail
  refine (Restart_any _ c15 _ h14).mono ?_
  intro e w18 hres
  obtain ⟨pa15, pc15, wa15, wc15, rfl, h15, bN⟩ := hres.to R15
  replace g1 := block_keep g1 bN
  replace g7 := block_keep g7 bN
  replace g10 := block_keep g10 bN
  replace g11 := block_keep g11 bN
  replace g13 := block_keep g13 bN
  replace h0 := h0.keep bN
  replace h1 := h1.keep bN
  replace h6 := h6.keep bN
  replace h7 := h7.keep bN
  replace h9 := h9.keep bN
  replace h10 := h10.keep bN
  replace h11 := h11.keep bN
  replace h13 := h13.keep bN
  replace h14 := h14.keep bN
  replace t3 := t3.keep bN
  replace t5 := t5.keep bN
  replace t8 := t8.keep bN
  replace b0 := below_trans b0 bN
  clear bN
  go_wp2_with fail
  refine (Read_any _ r15 1 _ h15).mono ?_
  intro e w19 hres
  obtain ⟨pa16, pc16, rfl, t16, bN⟩ := hres.to H15
  replace g1 := block_keep g1 bN
  replace g7 := block_keep g7 bN
  replace g10 := block_keep g10 bN
  replace g11 := block_keep g11 bN
  replace g13 := block_keep g13 bN
  replace h0 := h0.keep bN
  replace h1 := h1.keep bN
  replace h6 := h6.keep bN
  replace h7 := h7.keep bN
  replace h9 := h9.keep bN
  replace h10 := h10.keep bN
  replace h11 := h11.keep bN
  replace h13 := h13.keep bN
  replace h14 := h14.keep bN
  replace h15 := h15.keep bN
  replace t3 := t3.keep bN
  replace t5 := t5.keep bN
  replace t8 := t8.keep bN
  replace b0 := below_trans b0 bN
  clear bN
  obtain ⟨y0, y1, y2, -, -, -⟩ := Box3.of g1
  go_wp2_with fail
  refine (Crash_any _ d1 0 0 _ h1).mono ?_
  intro e w20 hres
  obtain ⟨pa17, pc17, wa17, wc17, rfl, h17, bN⟩ := hres.to C10
  clear y0 y1 y2
  replace g1 := block_keep g1 bN
  replace g7 := block_keep g7 bN
  replace g10 := block_keep g10 bN
  replace g11 := block_keep g11 bN
  replace g13 := block_keep g13 bN
  replace h0 := h0.keep bN
  replace h1 := h1.keep bN
  replace h6 := h6.keep bN
  replace h7 := h7.keep bN
  replace h9 := h9.keep bN
  replace h10 := h10.keep bN
  replace h11 := h11.keep bN
  replace h13 := h13.keep bN
  replace h14 := h14.keep bN
  replace h15 := h15.keep bN
  replace t3 := t3.keep bN
  replace t5 := t5.keep bN
  replace t8 := t8.keep bN
  replace t16 := t16.keep bN
  replace b0 := below_trans b0 bN
  clear bN
  go_wp2_with fail
  refine (Write_any _ c10 0 _ [] _ h17 (IsBytes.nil _) (by omega)).mono ?_
  intro e w21 hres
  obtain ⟨pa18, pc18, wa18, wc18, rfl, h18, bN⟩ := hres.to H17
  replace g1 := block_keep g1 bN
  replace g7 := block_keep g7 bN
  replace g10 := block_keep g10 bN
  replace g11 := block_keep g11 bN
  replace g13 := block_keep g13 bN
  replace h0 := h0.keep bN
  replace h1 := h1.keep bN
  replace h6 := h6.keep bN
  replace h7 := h7.keep bN
  replace h9 := h9.keep bN
  replace h10 := h10.keep bN
  replace h11 := h11.keep bN
  replace h13 := h13.keep bN
  replace h14 := h14.keep bN
  replace h15 := h15.keep bN
  replace h17 := h17.keep bN
  replace t3 := t3.keep bN
  replace t5 := t5.keep bN
  replace t8 := t8.keep bN
  replace t16 := t16.keep bN
  replace b0 := below_trans b0 bN
  clear bN
  obtain ⟨w22, hB18⟩ : ∃ x : World, x = w21.alloc (.cells #[(.slice pa18 d17.pages.length pc18), (.slice wa18 d17.writes.length wc18), (.bool d17.down)] 25) := ⟨_, rfl⟩
  have bp : _ ∧ _ := ⟨heap_alloc_new w21 (.cells #[(.slice pa18 d17.pages.length pc18), (.slice wa18 d17.writes.length wc18), (.bool d17.down)] 25), below_new w21 (.cells #[(.slice pa18 d17.pages.length pc18), (.slice wa18 d17.writes.length wc18), (.bool d17.down)] 25)⟩
  rw [← hB18] at bp
  obtain ⟨g18, bN⟩ := bp
  replace g1 := block_keep g1 bN
  replace g7 := block_keep g7 bN
  replace g10 := block_keep g10 bN
  replace g11 := block_keep g11 bN
  replace g13 := block_keep g13 bN
  replace h0 := h0.keep bN
  replace h1 := h1.keep bN
  replace h6 := h6.keep bN
  replace h7 := h7.keep bN
  replace h9 := h9.keep bN
  replace h10 := h10.keep bN
  replace h11 := h11.keep bN
  replace h13 := h13.keep bN
  replace h14 := h14.keep bN
  replace h15 := h15.keep bN
  replace h17 := h17.keep bN
  replace h18 := h18.keep bN
  replace t3 := t3.keep bN
  replace t5 := t5.keep bN
  replace t8 := t8.keep bN
  replace t16 := t16.keep bN
  replace b0 := below_trans b0 bN
  clear bN
  go_upto_region 11 with fail
  rw [← hB18]
  clear hB18
  obtain ⟨y0, y1, y2, -, -, -⟩ := Box3.of g1
  go_wp2_with fail
  refine (Write_any _ d1 400 _ [] _ h1 (IsBytes.nil _) (by omega)).mono ?_
  intro e w23 hres
  obtain ⟨pa19, pc19, wa19, wc19, rfl, h19, bN⟩ := hres.to H19
  clear y0 y1 y2
  replace g1 := block_keep g1 bN
  replace g7 := block_keep g7 bN
  replace g10 := block_keep g10 bN
  replace g11 := block_keep g11 bN
  replace g13 := block_keep g13 bN
  replace g18 := block_keep g18 bN
  replace h0 := h0.keep bN
  replace h1 := h1.keep bN
  replace h6 := h6.keep bN
  replace h7 := h7.keep bN
  replace h9 := h9.keep bN
  replace h10 := h10.keep bN
  replace h11 := h11.keep bN
  replace h13 := h13.keep bN
  replace h14 := h14.keep bN
  replace h15 := h15.keep bN
  replace h17 := h17.keep bN
  replace h18 := h18.keep bN
  replace t3 := t3.keep bN
  replace t5 := t5.keep bN
  replace t8 := t8.keep bN
  replace t16 := t16.keep bN
  replace b0 := below_trans b0 bN
  clear bN
  obtain ⟨w24, hB19⟩ : ∃ x : World, x = w23.alloc (.cells #[(.slice pa19 d19.pages.length pc19), (.slice wa19 d19.writes.length wc19), (.bool d19.down)] 25) := ⟨_, rfl⟩
  have bp : _ ∧ _ := ⟨heap_alloc_new w23 (.cells #[(.slice pa19 d19.pages.length pc19), (.slice wa19 d19.writes.length wc19), (.bool d19.down)] 25), below_new w23 (.cells #[(.slice pa19 d19.pages.length pc19), (.slice wa19 d19.writes.length wc19), (.bool d19.down)] 25)⟩
  rw [← hB19] at bp
  obtain ⟨g19, bN⟩ := bp
  replace g1 := block_keep g1 bN
  replace g7 := block_keep g7 bN
  replace g10 := block_keep g10 bN
  replace g11 := block_keep g11 bN
  replace g13 := block_keep g13 bN
  replace g18 := block_keep g18 bN
  replace h0 := h0.keep bN
  replace h1 := h1.keep bN
  replace h6 := h6.keep bN
  replace h7 := h7.keep bN
  replace h9 := h9.keep bN
  replace h10 := h10.keep bN
  replace h11 := h11.keep bN
  replace h13 := h13.keep bN
  replace h14 := h14.keep bN
  replace h15 := h15.keep bN
  replace h17 := h17.keep bN
  replace h18 := h18.keep bN
  replace h19 := h19.keep bN
  replace t3 := t3.keep bN
  replace t5 := t5.keep bN
  replace t8 := t8.keep bN
  replace t16 := t16.keep bN
  replace b0 := below_trans b0 bN
  clear bN
  go_upto_region 12 with fail
  rw [← hB19]
  clear hB19
  have q10 : ((d10.pages.length : Int) == 0) = true := by rw [N10.out]; rfl
  have q7 : ((d7.pages.length : Int) == 2) = true := by rw [N7.out]; rfl
  clear N10 N7
  go_wp2_with fail
  have hl : IsBytes (w24.alloc (.cells #[.int .u8 5, .int .u8 6] 5)) (.slice (some ⟨w24.heap.size, 0, none⟩) 2 2) [5, 6] := lit_bytes w24 [5, 6] (by decide)
  refine (begins_to (b := [5, 6]) (t3.keep (below_new _ _)) hl (by decide) E3).mono ?_
  rintro e w25 ⟨rfl, bN⟩
  clear hl
  replace bN := below_trans (below_new w24 (.cells #[.int .u8 5, .int .u8 6] 5)) bN
  replace g1 := block_keep g1 bN
  replace g7 := block_keep g7 bN
  replace g10 := block_keep g10 bN
  replace g11 := block_keep g11 bN
  replace g13 := block_keep g13 bN
  replace g18 := block_keep g18 bN
  replace g19 := block_keep g19 bN
  replace h0 := h0.keep bN
  replace h1 := h1.keep bN
  replace h6 := h6.keep bN
  replace h7 := h7.keep bN
  replace h9 := h9.keep bN
  replace h10 := h10.keep bN
  replace h11 := h11.keep bN
  replace h13 := h13.keep bN
  replace h14 := h14.keep bN
  replace h15 := h15.keep bN
  replace h17 := h17.keep bN
  replace h18 := h18.keep bN
  replace h19 := h19.keep bN
  replace t3 := t3.keep bN
  replace t5 := t5.keep bN
  replace t8 := t8.keep bN
  replace t16 := t16.keep bN
  replace b0 := below_trans b0 bN
  clear bN
  go_wp2_with fail
  refine (begins_to (b := []) t5 (IsBytes.nil _) (by decide) E5).mono ?_
  rintro e w26 ⟨rfl, bN⟩
  replace g1 := block_keep g1 bN
  replace g7 := block_keep g7 bN
  replace g10 := block_keep g10 bN
  replace g11 := block_keep g11 bN
  replace g13 := block_keep g13 bN
  replace g18 := block_keep g18 bN
  replace g19 := block_keep g19 bN
  replace h0 := h0.keep bN
  replace h1 := h1.keep bN
  replace h6 := h6.keep bN
  replace h7 := h7.keep bN
  replace h9 := h9.keep bN
  replace h10 := h10.keep bN
  replace h11 := h11.keep bN
  replace h13 := h13.keep bN
  replace h14 := h14.keep bN
  replace h15 := h15.keep bN
  replace h17 := h17.keep bN
  replace h18 := h18.keep bN
  replace h19 := h19.keep bN
  replace t3 := t3.keep bN
  replace t5 := t5.keep bN
  replace t8 := t8.keep bN
  replace t16 := t16.keep bN
  replace b0 := below_trans b0 bN
  clear bN
  go_wp2_with fail
  have hl : IsBytes (w26.alloc (.cells #[.int .u8 5] 5)) (.slice (some ⟨w26.heap.size, 0, none⟩) 1 1) [5] := lit_bytes w26 [5] (by decide)
  refine (begins_to (b := [5]) (t8.keep (below_new _ _)) hl (by decide) E8).mono ?_
  rintro e w27 ⟨rfl, bN⟩
  clear hl
  replace bN := below_trans (below_new w26 (.cells #[.int .u8 5] 5)) bN
  replace g1 := block_keep g1 bN
  replace g7 := block_keep g7 bN
  replace g10 := block_keep g10 bN
  replace g11 := block_keep g11 bN
  replace g13 := block_keep g13 bN
  replace g18 := block_keep g18 bN
  replace g19 := block_keep g19 bN
  replace h0 := h0.keep bN
  replace h1 := h1.keep bN
  replace h6 := h6.keep bN
  replace h7 := h7.keep bN
  replace h9 := h9.keep bN
  replace h10 := h10.keep bN
  replace h11 := h11.keep bN
  replace h13 := h13.keep bN
  replace h14 := h14.keep bN
  replace h15 := h15.keep bN
  replace h17 := h17.keep bN
  replace h18 := h18.keep bN
  replace h19 := h19.keep bN
  replace t3 := t3.keep bN
  replace t5 := t5.keep bN
  replace t8 := t8.keep bN
  replace t16 := t16.keep bN
  replace b0 := below_trans b0 bN
  clear bN
  obtain ⟨y100, y101, y102, -, -, -⟩ := Box3.of g10
  obtain ⟨y70, y71, y72, -, -, -⟩ := Box3.of g7
  go_wp2_with fail
  have hl : IsBytes (w27.alloc (.cells #[.int .u8 7, .int .u8 6] 5)) (.slice (some ⟨w27.heap.size, 0, none⟩) 2 2) [7, 6] := lit_bytes w27 [7, 6] (by decide)
  refine (begins_to (b := [7, 6]) (t16.keep (below_new _ _)) hl (by decide) E15).mono ?_
  rintro e w28 ⟨rfl, bN⟩
  clear hl
  replace bN := below_trans (below_new w27 (.cells #[.int .u8 7, .int .u8 6] 5)) bN
  replace g1 := block_keep g1 bN
  replace g7 := block_keep g7 bN
  replace g10 := block_keep g10 bN
  replace g11 := block_keep g11 bN
  replace g13 := block_keep g13 bN
  replace g18 := block_keep g18 bN
  replace g19 := block_keep g19 bN
  replace h0 := h0.keep bN
  replace h1 := h1.keep bN
  replace h6 := h6.keep bN
  replace h7 := h7.keep bN
  replace h9 := h9.keep bN
  replace h10 := h10.keep bN
  replace h11 := h11.keep bN
  replace h13 := h13.keep bN
  replace h14 := h14.keep bN
  replace h15 := h15.keep bN
  replace h17 := h17.keep bN
  replace h18 := h18.keep bN
  replace h19 := h19.keep bN
  replace t3 := t3.keep bN
  replace t5 := t5.keep bN
  replace t8 := t8.keep bN
  replace t16 := t16.keep bN
  replace b0 := below_trans b0 bN
  clear bN
  go_wp2
  go_ret
  exact ⟨rfl, b0⟩
end Go.Proofs.Ytcembocnkndlhaa
/- The contracts as arms of a region that draws its order; what fine gives. -/
namespace Go.Proofs.Ytcembocnkndlhaa
open Go.RowKit
theorem page_ts {v : Value} {d : Dk} {k r : Int} {l : List UInt8} {w : World} {Q : Ending → World → Prop} (h : IsDisk w v d) (hr : Hid (readD d k = (l, r))) (q : ∀ a c w', IsBytes w' (.slice a l.length c) l → Below w.heap.size w w' → Q (.returned (.slice a l.length c)) w') : Calls Try.prog 34 #[v, .int .i64 k] w Q :=
  (page_any v d k w h).mono fun e w' ⟨a, c, he, hB, hb⟩ => by
    subst he
    rw [hr.out] at hB ⊢
    exact q a c w' hB hb
theorem sameb_ts {va vb : Value} {a b : List UInt8} {w : World} {Q : Ending → World → Prop} (ha : IsBytes w va a) (hb : IsBytes w vb b) (h : Hid (a = b)) (q : ∀ w', Below w.heap.size w w' → Q (.returned (.bool true)) w') : Calls Try.prog 26 #[va, vb] w Q :=
  (SameBytes_any va vb a b w ha hb).mono fun e w' hs => by
    obtain ⟨rfl, hB⟩ := hs.below
    rw [decide_eq_true h.out]
    exact q w' hB
theorem same_ts {va vb : Value} {a b : Dk} {w : World} {Q : Ending → World → Prop} (ha : IsDisk w va a) (hb : IsDisk w vb b) (h : Hid (a = b)) (q : ∀ w', Below w.heap.size w w' → Q (.returned (.bool true)) w') : Calls Try.prog 21 #[va, vb] w Q :=
  (Same_any va vb a b w ha hb).mono fun e w' ⟨he, hB⟩ => by
    subst he
    rw [decide_eq_true h.out]
    exact q w' hB
theorem restart_ts {v : Value} {d d' : Dk} {w : World} {Q : Ending → World → Prop} (h : IsDisk w v d) (hr : Hid (restartD d = d')) (q : ∀ pa pc wa wc w', IsDisk w' (.agg #[.slice pa d'.pages.length pc, .slice wa d'.writes.length wc, .bool d'.down]) d' → Below w.heap.size w w' → Q (.returned (.agg #[.slice pa d'.pages.length pc, .slice wa d'.writes.length wc, .bool d'.down])) w') : Calls Try.prog 29 #[v] w Q :=
  (Restart_any v d w h).mono fun e w' hres => by
    obtain ⟨pa, pc, wa, wc, rfl, hD, hB⟩ := hres.to hr
    exact q pa pc wa wc w' hD hB
theorem crash_ts {v : Value} {d d' : Dk} {k t : Int} {w : World} {Q : Ending → World → Prop} (h : IsDisk w v d) (hr : Hid (crashD d k t = d')) (q : ∀ pa pc wa wc w', IsDisk w' (.agg #[.slice pa d'.pages.length pc, .slice wa d'.writes.length wc, .bool d'.down]) d' → Below w.heap.size w w' → Q (.returned (.agg #[.slice pa d'.pages.length pc, .slice wa d'.writes.length wc, .bool d'.down])) w') : Calls Try.prog 27 #[v, .int .i64 k, .int .i64 t] w Q :=
  (Crash_any v d k t w h).mono fun e w' hres => by
    obtain ⟨pa, pc, wa, wc, rfl, hD, hB⟩ := hres.to hr
    exact q pa pc wa wc w' hD hB
theorem rfull_tb {v : Value} {l : List UInt8} {w : World} {Q : Ending → World → Prop} (h : IsBytes w v l) (hl : l.length ≤ 64) (q : ∀ a c w', IsBytes w' (.slice a (full l).length c) (full l) → Below w.heap.size w w' → Q (.returned (.slice a (full l).length c)) w') : Calls Try.prog 35 #[v] w Q :=
  rFull_ts h (by omega) fun g c w' hO hB => by
    rw [← full_rfull hl] at hO ⊢
    exact q _ c w' (OwnB.is hO (by rw [full_rfull hl]; simp [rfull, zeros]; omega)) hB
theorem fine_parts {d : Dk} (h : fineD d = true) : formed d = true ∧ d.down = false ∧ d.writes.length ≤ 24 ∧ d.pages.length ≤ 24 := by
  unfold fineD smallD at h
  simp at h
  exact ⟨h.1.2, h.2, h.1.1.1.1.2, h.1.1.1.1.1⟩
theorem syncD_fine {d : Dk} (h : formed d = true) (hd : d.down = false) : syncD d = (⟨replay d.pages d.writes, [], false⟩, 0) := syncD_ok h hd
end Go.Proofs.Ytcembocnkndlhaa
/- A disk that reads in every world that differs at some blocks alone; Write keeps it so. -/
namespace Go.Proofs.Ytcembocnkndlhaa
open Go.RowKit
/-- W has each of w's blocks but those of B. -/
def Agree (B : Nat → Prop) (w W : World) : Prop := ∀ i, i < w.heap.size → ¬ B i → W.heap[i]? = w.heap[i]?
theorem Agree.refl (B : Nat → Prop) (w : World) : Agree B w w := fun _ _ _ => rfl
theorem Agree.below {B : Nat → Prop} {w w' W : World} (h : Agree B w' W) (hb : Below w.heap.size w w') : Agree B w W := fun i hi hB => (h i (Nat.lt_of_lt_of_le hi hb.size) hB).trans (hb.block i hi)
theorem Agree.store {B : Nat → Prop} {w W : World} {p : Addr} {x : Value} (h : Agree B (w.setCell p x) W) (hp : B p.block) : Agree B w W := fun i hi hB => by
  have hne : p.block ≠ i := fun e => hB (e ▸ hp)
  refine (h i (by simpa [World.setCell] using hi) hB).trans ?_
  simp [World.setCell, Array.getElem?_modify, hne]
theorem keeps_of_heap {w W : World} (h : ∀ i, i < w.heap.size → W.heap[i]? = w.heap[i]?) : Keeps w W := fun p v hp => by
  have := h p.block (cell_lt hp)
  unfold World.cell? at hp ⊢
  rw [this]; exact hp
theorem Agree.keeps {B : Nat → Prop} {w w' W : World} (h : Agree B w' W) (hb : Below w.heap.size w w') (hB : ∀ β, B β → w.heap.size ≤ β) : Keeps w W := by
  refine keeps_of_heap fun i hi => ?_
  exact (h i (Nat.lt_of_lt_of_le hi hb.size) fun e => by have := hB i e; omega).trans (hb.block i hi)
def OffDisk (B : Nat → Prop) (w : World) (v : Value) (d : Dk) : Prop :=
  ∃ (pv wv : Value) (ps : List (Int × Value)), v = .agg #[pv, wv, .bool d.down] ∧ ps.length = d.writes.length ∧ ∀ W, Agree B w W → IsPages W pv d.pages ∧ IsRows 2 encW W wv ps ∧ ∀ (i : Nat) (p : Int × Value) (x : Wt), ps[i]? = some p → d.writes[i]? = some x → p.1 = x.at_ ∧ IsBytes W p.2 x.data
theorem OffDisk.at_ {B : Nat → Prop} {w W : World} {v : Value} {d : Dk} (h : OffDisk B w v d) (ha : Agree B w W) : IsDisk W v d := by
  obtain ⟨pv, wv, ps, hv, hl, hAll⟩ := h
  obtain ⟨h1, h2, h3⟩ := hAll W ha
  exact ⟨pv, wv, hv, h1, ps, h2, hl, h3⟩
theorem OffDisk.is {B : Nat → Prop} {w : World} {v : Value} {d : Dk} (h : OffDisk B w v d) : IsDisk w v d := h.at_ (Agree.refl B w)
theorem OffDisk.keep {B : Nat → Prop} {w w' : World} {v : Value} {d : Dk} (h : OffDisk B w v d) (hb : Below w.heap.size w w') : OffDisk B w' v d := by
  obtain ⟨pv, wv, ps, hv, hl, hAll⟩ := h
  exact ⟨pv, wv, ps, hv, hl, fun W hW => hAll W (hW.below hb)⟩
theorem OffDisk.store {B : Nat → Prop} {w : World} {v : Value} {d : Dk} (h : OffDisk B w v d) {p : Addr} (hp : B p.block) (x : Value) : OffDisk B (w.setCell p x) v d := by
  obtain ⟨pv, wv, ps, hv, hl, hAll⟩ := h
  exact ⟨pv, wv, ps, hv, hl, fun W hW => hAll W (hW.store hp)⟩
theorem OffDisk.zero (B : Nat → Prop) (w : World) : OffDisk B w zeroV noDisk := ⟨_, _, [], rfl, rfl, fun W _ => ⟨IsPages.nil W, ⟨none, 0, rfl, .inl rfl, by simp, by simp, by simp⟩, by simp⟩⟩
theorem IsDisk.off {B : Nat → Prop} {w w' : World} {v : Value} {d : Dk} (h : IsDisk w v d) (hb : Below w.heap.size w w') (hB : ∀ β, B β → w.heap.size ≤ β) : OffDisk B w' v d := by
  obtain ⟨pv, wv, hv, ⟨vs, h1, h2, h3⟩, ps, k1, k2, k3⟩ := h
  refine ⟨pv, wv, ps, hv, k2, fun W hW => ?_⟩
  have hk := hW.keeps hb hB
  exact ⟨⟨vs, h1.keep hk, h2, fun i u l hu hl => IsRows.keep (h3 i u l hu hl) hk⟩, k1.keep hk, fun i p x hp hx => ⟨(k3 i p x hp hx).1, IsRows.keep (k3 i p x hp hx).2 hk⟩⟩
def DiskErrOff (B : Nat → Prop) (r : Dk × Int) (w : World) (e : Ending) (w' : World) : Prop := ∃ v, e = .returned (.tuple #[v, .int .i64 r.2]) ∧ OffDisk B w' v r.1 ∧ Below w.heap.size w w'
theorem own_agree {w W : World} {base : Nat} {e : TypeId} {size n : Nat} {v : Value} {xs : List Value} (h : w.ownsRow base e size v n xs) (hW : ∀ i, base ≤ i → i < w.heap.size → W.heap[i]? = w.heap[i]?) : W.ownsRow base e size v n xs := by
  obtain ⟨h0, h1⟩ := h
  refine ⟨h0, ?_⟩
  rcases h1 with h1 | ⟨g, cap, cur, e1, hg, hh, r⟩
  · exact .inl h1
  · exact .inr ⟨g, cap, cur, e1, hg, (hW g hg (block_lt hh)).trans hh, r⟩
theorem off_snoc {B : Nat → Prop} {w wF : World} {base b2 : Nat} {pv wv v u : Value} {ps : List (Int × Value)} {d : Dk} {k : Int} {data : List UInt8} {dn : Bool} (hAll : ∀ W, Agree B w W → IsPages W pv d.pages ∧ IsRows 2 encW W wv ps ∧ ∀ (i : Nat) (p : Int × Value) (x : Wt), ps[i]? = some p → d.writes[i]? = some x → p.1 = x.at_ ∧ IsBytes W p.2 x.data)
    (hB : ∀ β, B β → β < w.heap.size) (h2 : ps.length = d.writes.length) (h : wF.ownsRow base 49 2 v (ps.length + 1) (ps.flatMap encW ++ [.int .i64 k, u])) (hb : Below w.heap.size w wF) (hu : OwnPage wF b2 u data) (hbase : w.heap.size ≤ base) (hb2 : w.heap.size ≤ b2) (hm : ps.length + 1 ≤ 9223372036854775807) :
    OffDisk B wF (.agg #[pv, v, .bool dn]) ⟨d.pages, d.writes ++ [⟨k, data⟩], dn⟩ := by
  have e : ps.flatMap encW ++ [.int .i64 k, u] = (ps ++ [(k, u)]).flatMap encW := by rw [List.flatMap_append]; rfl
  rw [e] at h
  have hl : ps.length + 1 = (ps ++ [(k, u)]).length := by simp
  rw [hl] at h hm
  refine ⟨pv, v, ps ++ [(k, u)], rfl, by simp [h2], fun W hW => ?_⟩
  have hag : ∀ i, w.heap.size ≤ i → i < wF.heap.size → W.heap[i]? = wF.heap[i]? := fun i h1 h2 => hW i h2 fun e => by have := hB i e; omega
  obtain ⟨a1, a2, a3⟩ := hAll W (hW.below hb)
  have hu' : OwnPage W b2 u data := by
    obtain ⟨g, e1, e2, e3, e4⟩ := hu
    exact ⟨g, e1, e2, (hag g (by omega) (block_lt e3)).trans e3, e4⟩
  refine ⟨a1, IsRows.of_owns (own_agree h fun i x y => hag i (by omega) y) (fun _ _ => rfl) hm, fun i p x hp hx => ?_⟩
  dsimp only at hx
  rcases Nat.lt_or_ge i ps.length with hi | hi
  · rw [List.getElem?_append_left hi] at hp
    rw [List.getElem?_append_left (by omega)] at hx
    exact a3 i p x hp hx
  · rw [List.getElem?_append_right hi] at hp
    rw [List.getElem?_append_right (by omega)] at hx
    have h0 : i - ps.length = 0 := by
      have := (List.getElem?_eq_some_iff.1 hp).1
      simp at this; omega
    rw [← h2, h0] at hx
    rw [h0] at hp
    obtain rfl : (k, u) = p := by simpa using hp
    obtain rfl : (⟨k, data⟩ : Wt) = x := by simpa using hx
    exact ⟨rfl, hu'.bytes⟩
set_option maxHeartbeats 2000000 in
set_option maxRecDepth 100000 in
theorem Write_off (B : Nat → Prop) (v : Value) (d : Dk) (k : Int) (bv : Value) (l : List UInt8) (w : World) (ho : OffDisk B w v d) (hB : ∀ β, B β → β < w.heap.size) (hb : IsBytes w bv l) (hl : d.writes.length ≤ 100000000) :
    Calls Try.prog 19 #[v, .int .i64 k, bv] w (DiskErrOff B (writeD d k l) w) := by
  obtain ⟨i0, hi, hz0, hz1, hz2⟩ := info_parts info49
  have h0 := ho.is
  have hb0 := hb
  obtain ⟨pv, wv, ps, hv, hq2, hAll⟩ := ho
  obtain ⟨pa, pc, wa, wc, e, hp, hw, m1, m2⟩ := h0.shape
  subst e
  simp at hv
  obtain ⟨rfl, rfl⟩ := hv
  have HALL := Lib.hid hAll
  have HB := Lib.hid hB
  clear hAll hB
  obtain ⟨ba, bc, rfl, -, mb⟩ := hb
  obtain ⟨C, hC⟩ : ∃ C, C = Obj.cells #[.slice pa d.pages.length pc, .slice wa d.writes.length wc, .bool d.down] 25 := ⟨_, rfl⟩
  obtain ⟨Z, hZ⟩ : ∃ Z, Z = Obj.cells #[.slice none 0 0, .slice none 0 0, .bool false] 25 := ⟨_, rfl⟩
  obtain ⟨wb, hwb⟩ : ∃ x : World, x = (w.alloc C).alloc Z := ⟨_, rfl⟩
  have b1 := below_new w C
  have b2 : Below (w.alloc C).heap.size (w.alloc C) wb := by subst hwb; exact below_new _ _
  have b0 := below_trans b1 b2
  by_cases h64 : 64 < l.length
  · have H := Lib.hid (show writeD d k l = (noDisk, 1) by unfold writeD; rw [if_pos (by omega)])
    go_enter Try.func19, Try.ntmps19
    go_wp2
    refine bodyPost_ret (v := .tuple #[zeroV, .int .i64 1]) (by simp [results, Try.results19, go_sem, zeroV]) rfl ?_
    rw [← hC, ← hZ, ← hwb]
    refine ⟨zeroV, ?_, ?_, b0⟩
    · rw [H.out]
    · rw [H.out]; exact OffDisk.zero B _
  · have h64' : l.length ≤ 64 := by omega
    by_cases hf : failure d k = 0
    · have H := Lib.hid (show writeD d k l = (⟨d.pages, d.writes ++ [⟨k, full l⟩], d.down⟩, 0) by unfold writeD; rw [if_neg h64, if_neg (by simp [hf])])
      have HF := Lib.hid hf
      clear hf
      go_enter Try.func19, Try.ntmps19
      go_wp2_with fail
      rw [← hC, ← hZ, ← hwb]
      refine (failure_eq (h0.keep b0) _ HF.out).mono ?_
      rintro e w3 ⟨rfl, b3⟩
      have g0 : wb.heap[w.heap.size]? = some (.cells #[.slice pa d.pages.length pc, .slice wa d.writes.length wc, .bool d.down] 25 (0, 0)) := by
        subst hC; exact box_at b2
      have g1 : wb.heap[w.heap.size + 1]? = some (.cells #[.slice none 0 0, .slice none 0 0, .bool false] 25 (0, 0)) := by
        subst hwb hZ
        have := heap_alloc_new (w.alloc C) (.cells #[.slice none 0 0, .slice none 0 0, .bool false] 25)
        simpa using this
      have k0 := block_keep g0 b3
      obtain ⟨y0, y1, y2, -, -, -⟩ := Box3.of k0
      have hr := (HALL.out w (Agree.refl B w)).2.1
      have hq3 := (HALL.out w (Agree.refl B w)).2.2
      have hone := writes_one hq2 hq3
      have b03 := below_trans b0 b3
      go_wp2_with fail
      refine (clone_any _ ps _ (hr.keep (keeps_below b03)) hone (by omega)).mono ?_
      rintro e w4 ⟨v4, rfl, h4, b4⟩
      go_wp2_with fail
      refine (full_any _ l _ (hb0.keep (below_trans b03 b4))).mono ?_
      rintro e w5 ⟨v5, rfl, h5, b5⟩
      obtain ⟨q5, rfl, hq5, hg5, hl5⟩ := h5
      have h45 := own_keep h4 b5
      have hE := Lib.hid hq2
      have hps : ps.length ≤ 100000000 := by omega
      have hs5 := b5.size
      have hs4 := b4.size
      have hs3 := b3.size
      have hsb : wb.heap.size = w.heap.size + 1 + 1 := by subst hwb; simp
      have hgl : q5 < w5.heap.size := block_lt hg5
      have hnew : ∀ j u, ([Value.int .i64 k, .slice (some ⟨q5, 0, none⟩) 64 64] : List Value)[j]? = some u → (w5.alloc (.cells #[.int .i64 k, .slice (some ⟨q5, 0, none⟩) 64 64] 49)).cell? ((⟨w5.heap.size, 0, none⟩ : Addr).add j) = some u := cells_two_new _ _ _ _
      have HN := Lib.hid hnew
      have h1n : ∀ u ∈ ([Value.int .i64 k, .slice (some ⟨q5, 0, none⟩) 64 64] : List Value), u.oneCell' = true := by
        intro u hu; simp at hu; rcases hu with rfl | rfl <;> rfl
      have H1 := Lib.hid h1n
      clear hq2 hnew h1n y0 y1 y2
      go_wp2_with (at_builtin; refine wpList_append_own _ rfl _ _ 23 rfl w3.heap.size 49 i0 (.agg #[.int .i64 0, .slice none 0 0]) 2 32 Try.underlying23 hi hz0 hz1 hz2 rfl (by decide) _ _ _ rfl (h45.alloc _) ⟨w5.heap.size, 0, none⟩ 1 1 [.int .i64 k, .slice (some ⟨q5, 0, none⟩) 64 64] rfl rfl HN.out H1.out (by unfold maxLen; omega) (by omega) (by simp; omega) ?_; intro v6 w6 hown6 hgrow6 _; obtain ⟨g6, cap6, rfl, hg6⟩ := own_succ hown6; have b36 := below6 b4 b5 h45 hgrow6; obtain ⟨z0, z1, z2, zf0, zf1, zf2⟩ := Box3.of (block_keep g0 (below_trans b3 b36)); obtain ⟨u0, u1, u2, uf0, uf1, uf2⟩ := Box3.of (block_keep g1 (below_trans b3 b36)))
      refine bodyPost_ret (v := .tuple #[.agg #[.slice pa d.pages.length pc, .slice (some ⟨g6, 0, none⟩) (ps.length + 1) cap6, .bool d.down], .int .i64 0]) ?_ rfl ?_
      · simp [results, Try.results19, go_sem, u0, u1, u2]
      · have bF := (((below_trans b0 (below_trans b3 b36)).setCell (p := ⟨w.heap.size, 1, none⟩) (Nat.le_refl _) (.slice (some ⟨g6, 0, none⟩) (ps.length + 1) cap6)).setCell (p := ⟨w.heap.size + 1, 0, none⟩) (by simp) (.slice pa d.pages.length pc) |>.setCell (p := ⟨w.heap.size + 1, 1, none⟩) (by simp) (.slice (some ⟨g6, 0, none⟩) (ps.length + 1) cap6)).setCell (p := ⟨w.heap.size + 1, 2, none⟩) (by simp) (.bool d.down)
        have oF := own_store (own_store (own_store (own_store hown6 (p := ⟨w.heap.size, 1, none⟩) (by simp; omega) (.slice (some ⟨g6, 0, none⟩) (ps.length + 1) cap6)) (p := ⟨w.heap.size + 1, 0, none⟩) (by simp; omega) (.slice pa d.pages.length pc)) (p := ⟨w.heap.size + 1, 1, none⟩) (by simp; omega) (.slice (some ⟨g6, 0, none⟩) (ps.length + 1) cap6)) (p := ⟨w.heap.size + 1, 2, none⟩) (by simp; omega) (.bool d.down)
        have p5 : OwnPage w5 w4.heap.size (.slice (some ⟨q5, 0, none⟩) 64 64) (full l) := ⟨q5, rfl, hq5, hg5, hl5⟩
        have p6 : OwnPage w6 w4.heap.size (.slice (some ⟨q5, 0, none⟩) 64 64) (full l) := by
          refine ⟨q5, rfl, hq5, ?_, hl5⟩
          rw [hgrow6.block q5 (by simp; omega) (fun e => ?_)]
          · exact (Below.heap_alloc _ _ _ hgl).trans hg5
          · have := h4.lt q5 e.symm; omega
        have pF := OwnPage.store (OwnPage.store (OwnPage.store (OwnPage.store p6 (p := ⟨w.heap.size, 1, none⟩) (by simp; omega) (.slice (some ⟨g6, 0, none⟩) (ps.length + 1) cap6)) (p := ⟨w.heap.size + 1, 0, none⟩) (by simp; omega) (.slice pa d.pages.length pc)) (p := ⟨w.heap.size + 1, 1, none⟩) (by simp; omega) (.slice (some ⟨g6, 0, none⟩) (ps.length + 1) cap6)) (p := ⟨w.heap.size + 1, 2, none⟩) (by simp; omega) (.bool d.down)
        refine ⟨_, by rw [H.out], ?_, bF⟩
        rw [H.out]
        exact off_snoc HALL.out HB.out hE.out oF bF pF (by omega) (by omega) (by omega)
    · have H := Lib.hid (show writeD d k l = (noDisk, failure d k) by unfold writeD; rw [if_neg h64, if_pos hf])
      have hne := ne_beq hf
      have hbq : (failure d k != 0) = true := by simpa using hf
      generalize hR : failure d k = R at *
      have HR := Lib.hid hR
      clear hR
      go_enter Try.func19, Try.ntmps19
      go_wp2_with fail
      rw [← hC, ← hZ, ← hwb]
      refine (failure_eq (h0.keep b0) _ HR.out).mono ?_
      rintro e w3 ⟨rfl, b3⟩
      have g1 : wb.heap[w.heap.size + 1]? = some (.cells #[.slice none 0 0, .slice none 0 0, .bool false] 25 (0, 0)) := by
        subst hwb hZ
        have := heap_alloc_new (w.alloc C) (.cells #[.slice none 0 0, .slice none 0 0, .bool false] 25)
        simpa using this
      obtain ⟨u0, u1, u2, uf0, uf1, uf2⟩ := Box3.of (block_keep g1 b3)
      go_wp2
      refine bodyPost_ret (v := .tuple #[zeroV, .int .i64 R]) (by simp [results, Try.results19, go_sem, zeroV, u0, u1, u2]) rfl ?_
      refine ⟨zeroV, by rw [H.out], by rw [H.out]; exact OffDisk.zero B _, ?_⟩
      exact (((below_trans b0 b3).setCell (p := ⟨w.heap.size + 1, 0, none⟩) (by simp) _).setCell (p := ⟨w.heap.size + 1, 1, none⟩) (by simp) _).setCell (p := ⟨w.heap.size + 1, 2, none⟩) (by simp) _
end Go.Proofs.Ytcembocnkndlhaa
/- A region that draws its order and ends in a store into a cell that it loads: the loads are taken first, and what they read need not stand behind the last operation, which waits for all others. -/
namespace Go.Proofs.Ytcembocnkndlhaa
/-- What a step writes into the frame, laid out. -/
theorem puts : (∀ (t : Array Value) (ds : List Deferred) (i : Nat) (v : Value), ({ tmps := t, defers := ds } : Act).put (some i) v = { tmps := t.setIfInBounds i v, defers := ds }) ∧ (∀ (t : Array Value) (ds : List Deferred) (v : Value), ({ tmps := t, defers := ds } : Act).put none v = { tmps := t, defers := ds }) ∧
    (∀ (l : List Value) (i : Nat) (v : Value), l.toArray.setIfInBounds i v = (l.set i v).toArray) ∧ (∀ (x : Value) (l : List Value) (v : Value), (x :: l).set 0 v = v :: l) ∧ (∀ (x : Value) (l : List Value) (n : Nat) (v : Value), (x :: l).set (n + 1) v = x :: l.set n v) :=
  ⟨fun _ _ _ _ => rfl, fun _ _ _ => rfl, fun _ _ _ => by simp, fun _ _ _ => rfl, fun _ _ _ _ => rfl⟩
section
variable {P : Program} {ops : Array Oper} {Q : Exit → Act → World → Prop} {md : Region.Mode} {S : World → Prop} {n : Nat}
/-- Whatever order is picked, what is assumed of the world holding behind all operations but those from the n-th on. -/
def AnyT (P : Program) (md : Region.Mode) (ops : Array Oper) (Q : Exit → Act → World → Prop) (S : World → Prop) (n : Nat) : Nat → Array Bool → Act → World → Prop
  | 0, done, a, w => Region.ready md ops done = [] ∧ Q .normal a w
  | f + 1, done, a, w => (Region.ready md ops done = [] → Q .normal a w) ∧ ∀ i ∈ Region.ready md ops done, wpOp P ops Q i (fun a' w' => (i < n → S w') ∧ AnyT P md ops Q S n f (done.setIfInBounds i true) a' w') a w
theorem any_of : ∀ (f : Nat) (done : Array Bool) (a : Act) (w : World), AnyT P md ops Q S n f done a w → wpAny P md ops Q f done a w
  | 0, _, _, _, h => h
  | f + 1, _, _, _, h => ⟨h.1, fun i hi => wpOp_mono (fun a' w' h' => any_of f _ a' w' h'.2) (h.2 i hi)⟩
/-- The operations from the n-th on wait for all that come before it. -/
def lateB (md : Region.Mode) (ops : Array Oper) (n : Nat) : Bool :=
  (List.range ops.size).all fun t => decide (t < n) || (List.range n).all fun i => match ops[t]? with | some o => o.after.any fun e => Region.binds md e && e.on == i | none => false
theorem late_waits (h : lateB md ops n = true) {t i : Nat} {o : Oper} (ho : ops[t]? = some o) (ht : n ≤ t) (hi : i < n) : ∃ e ∈ o.after, Region.binds md e = true ∧ e.on = i := by
  unfold lateB at h
  rw [List.all_eq_true] at h
  have h1 := h t (List.mem_range.2 (Array.getElem?_eq_some_iff.1 ho).1)
  rw [Bool.or_eq_true, decide_eq_true_eq, List.all_eq_true] at h1
  rcases h1 with h1 | h1
  · omega
  · have h2 := h1 i (List.mem_range.2 hi)
    rw [ho] at h2
    obtain ⟨e, he, hb⟩ := Array.any_eq_true'.1 h2
    rw [Bool.and_eq_true, beq_iff_eq] at hb
    exact ⟨e, he, hb⟩
theorem any_first (hl : lateB md ops n = true) {i : Nat} (hin : i < n) {oi : Oper} {v : Value} (hi : ops[i]? = some oi) (hsel : Region.noSelect ops = true)
    (hQ : ∀ c a w, Q (.panic c) (a.put oi.dst v) w → Q (.panic c) a w) (f : Nat) : ∀ (done : Array Bool) (a : Act) (w : World),
      (∀ j oj, ops[j]? = some oj → j ≠ i → done.getD j true = false → (∀ e ∈ oj.after, Region.binds md e = true → e.on ≠ i) → oi.apart ops oj = true) →
      i ∈ Region.ready md ops done → YieldsIf P ops S oi v a → S w → AnyT P md ops Q S n f (done.setIfInBounds i true) (a.put oi.dst v) w → AnyT P md ops Q S n (f + 1) done a w := by
  induction f with
  | zero =>
    intro done a w _ hr hy hS hx
    constructor
    · intro h; rw [h] at hr; cases hr
    · intro j hj
      rcases Nat.decEq j i with hne | he
      · have := ready_mono hj hne
        rw [hx.1] at this
        cases this
      · rw [he]; exact hy.wpOp hi hS ⟨fun _ => hS, hx⟩
  | succ f ih =>
    intro done a w hfree hr hy hS hx
    constructor
    · intro h; rw [h] at hr; cases hr
    · intro j hj
      rcases Nat.decEq j i with hne | he
      · have hstep := hx.2 j (ready_mono hj hne)
        obtain ⟨hju, oj, hoj, hall⟩ := mem_ready.1 hj
        have hfirst : done.getD i false = false := by
          have h0 := (mem_ready.1 hr).1
          rcases Nat.lt_or_ge i done.size with h' | h'
          · simp [h'] at h0 ⊢; exact h0
          · simp [Array.getElem?_eq_none h']
        have hno : ∀ e ∈ oj.after, Region.binds md e = true → e.on ≠ i := fun e he hb heq => by
          have := hall e he hb
          rw [heq, hfirst] at this
          cases this
        have hjn : j < n := by
          rcases Nat.lt_or_ge j n with h | h
          · exact h
          · obtain ⟨e, he, hb, hon⟩ := late_waits hl hoj h hin
            exact absurd hon (hno e he hb)
        have hsel' := Region.noSelect_spec hsel
        refine wpOp_mono (fun a' w' h3 => ?_) (wpOp_putIf hoj (hfree j oj hoj hne hju hno) (fun cs b => hsel' i oi cs b hi) (fun cs b => hsel' j oj cs b hoj) hQ hy hstep)
        obtain ⟨hy', hs', hx'⟩ := h3
        refine ⟨hs', ih _ a' w' (fun k ok hk hki hun hno' => hfree k ok hk hki ?_ hno') (ready_mono hr (Ne.symm hne)) hy' (hs' hjn) ?_⟩
        · rcases Nat.decEq j k with h | h
          · rwa [getD_set_ne true h] at hun
          · rw [← h]; exact hju
        · rw [Array.setIfInBounds_comm _ _ hne]; exact hx'
      · rw [he]; exact hy.wpOp hi hS ⟨fun _ => hS, hx⟩
theorem any_take (hl : lateB md ops n = true) {i : Nat} {oi : Oper} {v : Value} {f : Nat} {done : Array Bool} {a : Act} {w : World} (hi : ops[i]? = some oi) (hin : decide (i < n) = true)
    (hs : Region.noSelect ops = true) (hf : Region.free md ops done i = true) (hr : (Region.ready md ops done).contains i = true)
    (hQ : ∀ c a w, Q (.panic c) (a.put oi.dst v) w → Q (.panic c) a w) (hy : YieldsIf P ops S oi v a) (hS : S w) (h : AnyT P md ops Q S n f (done.setIfInBounds i true) (a.put oi.dst v) w) : AnyT P md ops Q S n (f + 1) done a w :=
  any_first hl (of_decide_eq_true hin) hi hs hQ f done a w (Region.free_spec hi hf) (by simpa using hr) hy hS h
/-- The one operation that may come up now. -/
theorem any_next {i : Nat} {o : Oper} {f : Nat} {done : Array Bool} {a : Act} {w : World} (hr : Region.ready md ops done = [i]) (ho : ops[i]? = some o) (hin : decide (i < n) = true)
    (h : ∀ K : Act → World → Prop, Shut (∀ a w, S w → (S w → AnyT P md ops Q S n f (done.setIfInBounds i true) a w) → K a w) → if Region.wanted o (yielded ops a.tmps) = true then Oper.wp P o a w K Q else K (a.put o.dst undef) w) : AnyT P md ops Q S n (f + 1) done a w := by
  refine ⟨fun h0 => (by rw [hr] at h0; cases h0), fun j hj => ?_⟩
  rw [hr] at hj
  obtain rfl := List.mem_singleton.1 hj
  exact wpOp_step ho fun K hK => h K fun a' w' hS hx => hK a' w' ⟨fun _ => hS, hx hS⟩
theorem any_late {i : Nat} {o : Oper} {f : Nat} {done : Array Bool} {a : Act} {w : World} (hr : Region.ready md ops done = [i]) (ho : ops[i]? = some o) (hin : decide (n ≤ i) = true)
    (h : ∀ K : Act → World → Prop, Shut (∀ a w, AnyT P md ops Q S n f (done.setIfInBounds i true) a w → K a w) → if Region.wanted o (yielded ops a.tmps) = true then Oper.wp P o a w K Q else K (a.put o.dst undef) w) : AnyT P md ops Q S n (f + 1) done a w := by
  refine ⟨fun h0 => (by rw [hr] at h0; cases h0), fun j hj => ?_⟩
  rw [hr] at hj
  obtain rfl := List.mem_singleton.1 hj
  exact wpOp_step ho fun K hK => h K fun a' w' hx => hK a' w' ⟨fun hlt => absurd hlt (by have := of_decide_eq_true hin; omega), hx⟩
theorem any_done {done : Array Bool} {a : Act} {w : World} (hr : Region.ready md ops done = []) (h : Q .normal a w) : ∀ f, AnyT P md ops Q S n f done a w
  | 0 => ⟨hr, h⟩
  | _ + 1 => ⟨fun _ => h, by rw [hr]; simp⟩
theorem wp_region_late (S : World → Prop) (n : Nat) {id : Nat} {a : Act} {w : World} (hm : P.follows .mixedOrders = true) (hS : S w.drew) (h : S w.drew → AnyT P .any ops Q S n ops.size (Array.replicate ops.size false) a w.drew) : (Code.region id ops true).wp P Q a w :=
  wp_region_any hm (any_of _ _ _ _ (h hS))
end
end Go.Proofs.Ytcembocnkndlhaa
