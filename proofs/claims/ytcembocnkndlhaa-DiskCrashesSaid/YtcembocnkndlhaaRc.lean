/- The reference's walk: execute. -/
import Derived.Test.YtcembocnkndlhaaRb
import Derived.Test.YtcembocnkndlhaaWh
import Derived.Deep.RegionHeld3
namespace Go.Proofs.Ytcembocnkndlhaa
open Go.RowKit
theorem rFull_ts {v : Value} {l : List UInt8} {w : World} {Q : Ending → World → Prop} (h : IsBytes w v l) (hl : l.length ≤ 100000) (k : ∀ g c w', OwnB w' w.heap.size (.slice (some ⟨g, 0, none⟩) (rfull l).length c) (rfull l) → Below w.heap.size w w' → Q (.returned (.slice (some ⟨g, 0, none⟩) (rfull l).length c)) w') : Calls Try.prog 35 #[v] w Q :=
  (rFull_any v l w h hl).mono fun e w' ⟨u, he, hu, hb⟩ => by
    subst he
    obtain ⟨g, c, cur, rfl, _⟩ := id hu.form
    exact k g c w' hu hb
theorem over_step {data l : List UInt8} {j : Nat} (hd : data.length = 64) (hl : l.length = 64) (hj : j < 64) : (over data l j).set j (data[j]'(by omega)) = over data l (j + 1) := by
  unfold over
  rw [List.set_append_right _ _ (by rw [List.length_take]; omega), List.length_take, show j - min j data.length = 0 by omega, List.drop_eq_getElem_cons (by omega : j < l.length), List.set_cons_zero, List.take_succ_eq_append_getElem (by omega : j < data.length), List.append_assoc]
  rfl
set_option maxHeartbeats 4000000 in
set_option maxRecDepth 100000 in
theorem rexec_any (v : Value) (base : Nat) (L : List (List UInt8)) (k : Nat) (dv : Value) (data : List UInt8) (n : Int) (w : World) (hO : OwnR w base v L) (hbase : base ≤ w.heap.size) (hd : ∀ W, Below base w W → IsBytes W dv data) (hdl : data.length = 64) (hk : k < 400) (hwd : Hid (Wide L)) :
    Calls Try.prog 63 #[v, .agg #[.int .i64 k, dv], .int .i64 n] w fun e w' => ∃ u, e = .returned u ∧ OwnR w' base u (put L k data (max 0 (min n 64)).toNat) ∧ Below base w w' := by
  have hd0 := hd w (Below.refl _ _)
  obtain ⟨da, dc, rfl, hdr, hdm⟩ := hd0
  clear hdr
  have HDL := Lib.hid hdl
  rw [hdl] at hdm hd ⊢
  clear hdl
  obtain ⟨va0, vc0, rfl, -⟩ := hO.len
  have g0 := heap_alloc_new w (.cells #[.int .i64 k, .slice da 64 dc] 49)
  have b0 := below_new w (.cells #[.int .i64 k, .slice da 64 dc] 49)
  have hO0 := hO.keep b0
  have hsz : w.heap.size + 1 ≤ (w.alloc (.cells #[.int .i64 k, .slice da 64 dc] 49)).heap.size := by simp
  go_enter Try.func63, Try.ntmps63
  go_wp2
  go_loopg [0] (k + 1 - L.length) (fun g vo wr => ∃ m : Nat, m + g = k + 1 - L.length ∧ OwnR wr base vo (L ++ List.replicate m (full [])) ∧ wr.heap[w.heap.size]? = some (.cells #[.int .i64 k, .slice da 64 dc] 49 (0, 0)) ∧ Below base w wr ∧ w.heap.size + 1 ≤ wr.heap.size)
  case atStart => exact ⟨0, by omega, by simpa using hO0, g0, b0.mono hbase, hsz⟩
  case round =>
    obtain ⟨m, hm, hOr, hg, hb, hs⟩ := hrel
    obtain ⟨wo, rfl⟩ : ∃ wo : World, wo = wr := ⟨_, rfl⟩
    obtain ⟨M, hM⟩ : ∃ M, L ++ List.replicate m (full []) = M := ⟨_, rfl⟩
    have hMl : M.length = L.length + m := by rw [← hM]; simp
    have HM := Lib.hid hM
    rw [hM] at hOr
    clear hM hO hO0 g0
    obtain ⟨va, vc, rfl, hvc⟩ := hOr.len
    have z0 : wo.cell? ⟨w.heap.size, 0, none⟩ = some (.int .i64 k) := cell_at hg rfl
    have z1 : wo.cell? ⟨w.heap.size, 1, none⟩ = some (.slice da 64 dc) := cell_at hg rfl
    have HM2 := Lib.hid hMl
    by_cases hle : M.length ≤ k
    · have hdd : decide (M.length ≤ k) = true := decide_eq_true hle
      have hL1 : M.length ≤ 1000 := by have := HM2.out; omega
      have hbs : base ≤ wo.heap.size := by omega
      clear hMl
      go_wp2_with fail
      refine rFull_ts (IsBytes.nil _) (by simp) ?_
      intro g c w2 hB2 b2
      go_wp2_with (at_builtin; refine wpList_pushR (wr := wo) rfl (.tmp 13) (.tmp 15) 22 rfl Try.underlying22 rfl rfl hOr (below_alloc' b2) (OwnB.keep hB2 (below_new _ _)) hbs (heap_alloc_new w2 _) hL1 ?_; intro g' cap' w3 hO3 b3 g3)
      go_roundg (gk - 1)
      case measure => have := HM2.out; omega
      case rel =>
        refine ⟨m + 1, by have := HM2.out; omega, ?_, (g3.block _ (by omega) (hOr.row_ne hg (by decide))).trans hg, hb.trans b3, by have := g3.size; omega⟩
        rw [← rep_snoc, HM.out, show full [] = rfull [] from full_rfull (by simp)]
        exact hO3
    · have hdd : decide (M.length ≤ k) = false := decide_eq_false hle
      have hkM : k < M.length := by omega
      have hlM : M[k].length = 64 := by
        have : ∀ p ∈ M, p.length = 64 := by
          rw [← HM.out]
          intro p hp
          rcases List.mem_append.1 hp with hp | hp
          · exact hwd.out p hp
          · rw [List.eq_of_mem_replicate hp]; exact length_full _
        exact this _ (List.getElem_mem hkM)
      have hP : ∀ j, Hid (M.set k (over data M[k] j) = put L k data j) := fun j => Lib.hid (by
        have h1 : M = grow L (k + 1) := by
          rw [← HM.out]
          unfold grow
          congr 2
          omega
        subst h1
        unfold put
        exact set_modify (fun p => over data p j) hkM)
      have HLM := Lib.hid hlM
      have HK := Lib.hid (show M[k]? = some M[k] from List.getElem?_eq_getElem hkM)
      have hstart : Hid (M.set k (over data M[k] 0) = M) := Lib.hid (by rw [over_none, List.set_getElem_self])
      generalize M[k] = ml at *
      have hkI : (k : Int) < (M.length : Int) := by omega
      clear hMl hle hlM hwd
      go_wp2
      go_loopw [7] (fun i wr => ∃ j : Nat, (j : Int) ≤ max 0 (min n 64) ∧ i = .int .i64 j ∧ OwnR wr base (.slice va M.length vc) (M.set k (over data ml j)) ∧ wr.heap[w.heap.size]? = some (.cells #[.int .i64 k, .slice da 64 dc] 49 (0, 0)) ∧ Below base w wr) (fun i _ => 64 - (intOf i).toNat)
      case atStart => exact ⟨0, by omega, rfl, by rw [hstart.out]; exact hOr, hg, hb⟩
      case round =>
        obtain ⟨j, hj, rfl, hOr2, hg2, hb2⟩ := hrel
        obtain ⟨w2, rfl⟩ : ∃ w2 : World, w2 = wr := ⟨_, rfl⟩
        by_cases hin : (j : Int) < n ∧ (j : Int) < 64
        · obtain ⟨hn1, hn2⟩ := hin
          have hd1 : decide ((j : Int) < n) = true := decide_eq_true hn1
          have hd2 : decide ((j : Int) < 64) = true := decide_eq_true hn2
          have hj64 : j < 64 := by omega
          have HK2 : (M.set k (over data ml j))[k]? = some (over data ml j) := by
            rw [List.getElem?_set]; simp [(List.getElem?_eq_some_iff.1 HK.out).1]
          have hol : (over data ml j).length = 64 := length_over HDL.out HLM.out (by omega)
          obtain ⟨pb, pc, g, gc, e1, e2, e3, e4, e5, e6, e7, ⟨cur, e8, e10⟩, e9⟩ := hOr2.open_ HK2
          rw [Value.slice.injEq] at e1
          obtain ⟨rfl, -, rfl⟩ := e1
          have hbg : w.heap.size ≠ g := fun e => by
            rw [e] at hg2
            rw [hg2] at e8
            simp at e8
          have hB := hd w2 hb2
          obtain ⟨b1, o1, hda, hc1⟩ := (by
            obtain ⟨a', c', e', hr', _⟩ := hB
            rw [Value.slice.injEq] at e'
            obtain ⟨rfl, -, -⟩ := e'
            exact hr'.one (List.getElem?_eq_getElem (by rw [HDL.out]; exact hj64)) rfl : ∃ b off, da = some ⟨b, off, none⟩ ∧ w2.cell? ⟨b, off + j, none⟩ = some (.int .u8 (data[j]'(by rw [HDL.out]; exact hj64)).toNat))
          subst hda
          have hc1' : ∀ u, (w2.setCell ⟨g, j, none⟩ u).cell? ⟨b1, o1 + j, none⟩ = some (.int .u8 (data[j]'(by rw [HDL.out]; exact hj64)).toNat) := fun u => by
            obtain ⟨a', c', e', hr', _⟩ := hd (w2.setCell ⟨g, j, none⟩ u) (hb2.setCell (p := ⟨g, j, none⟩) e4 u)
            rw [Value.slice.injEq] at e'
            obtain ⟨rfl, -, -⟩ := e'
            obtain ⟨b2, o2, e2', c2⟩ := hr'.one (List.getElem?_eq_getElem (by rw [HDL.out]; exact hj64)) rfl
            simp only [Option.some.injEq, Addr.mk.injEq] at e2'
            obtain ⟨rfl, rfl, -⟩ := e2'
            exact c2
          have HO := e9 j (data[j]'(by rw [HDL.out]; exact hj64)) (by omega)
          rw [List.set_set, over_step HDL.out HLM.out hj64] at HO
          generalize data[j]'(by rw [HDL.out]; exact hj64) = bt at *
          clear e9 HK2
          rw [hol] at e3 e6
          have y0 : w2.cell? ⟨w.heap.size, 0, none⟩ = some (.int .i64 k) := cell_at hg2 rfl
          have y1 : w2.cell? ⟨w.heap.size, 1, none⟩ = some (.slice (some ⟨b1, o1, none⟩) 64 dc) := cell_at hg2 rfl
          have yg : ∃ x, w2.cell? ⟨g, j, none⟩ = some x := ⟨_, cell_at e8 (Array.getElem?_eq_getElem (by omega : j < cur.size))⟩
          obtain ⟨x, yg⟩ := yg
          have yf : w2.frozen? ⟨g, j, none⟩ = false := free_at e8
          have k0 : ∀ u, (w2.setCell ⟨g, j, none⟩ u).cell? ⟨w.heap.size, 0, none⟩ = some (.int .i64 k) := fun u => cell_other y0 hbg
          have k1 : ∀ u, (w2.setCell ⟨g, j, none⟩ u).cell? ⟨w.heap.size, 1, none⟩ = some (.slice (some ⟨b1, o1, none⟩) 64 dc) := fun u => cell_other y1 hbg
          have k2 : ∀ u, (w2.setCell ⟨g, j, none⟩ u).cell? ⟨pb, k, none⟩ = some (.slice (some ⟨g, 0, none⟩) 64 gc) := fun u => cell_other e3 e5
          have hI0 : (0 : Int) ≤ (j : Int) := by omega
          have hI1 : (0 : Int) ≤ (k : Int) := by omega
          have hblk := block_other (u := .int .u8 bt.toNat) (i := j) hg2 hbg
          clear hol hOr2 hOr e8 e10 hg2 hg
          go_wp2
          go_region_held3 (fun w' => w'.cell? ⟨w.heap.size, 0, none⟩ = some (.int .i64 k) ∧ w'.cell? ⟨w.heap.size, 1, none⟩ = some (.slice (some ⟨b1, o1, none⟩) 64 dc) ∧ w'.cell? ⟨pb, k, none⟩ = some (.slice (some ⟨g, 0, none⟩) 64 gc) ∧ w'.cell? ⟨b1, o1 + j, none⟩ = some (.int .u8 bt.toNat))
            (first | exact ⟨y0, y1, e3, hc1⟩ | exact ⟨k0 _, k1 _, k2 _, hc1' _⟩) (fail)
          all_goals
            go_wp2
            go_roundw
            case rel => exact ⟨j + 1, by omega, by go_num, HO, hblk, (hb2.setCell (p := ⟨g, j, none⟩) e4 _).drew⟩
            case measure => simp [intOf]; omega
        · have hjm : (j : Int) = max 0 (min n 64) := by omega
          have hjn : j = (max 0 (min n 64)).toNat := by omega
          have HJ := Lib.hid hjn
          by_cases h1 : (j : Int) < n
          · have hd1 : decide ((j : Int) < n) = true := decide_eq_true h1
            have hd2 : decide ((j : Int) < 64) = false := decide_eq_false (by omega)
            clear hjm hjn
            go_wp2
            go_ret
            rw [← HJ.out, ← (hP j).out]
            exact ⟨_, rfl, hOr2, hb2⟩
          · have hd1 : decide ((j : Int) < n) = false := decide_eq_false h1
            clear hjm hjn
            go_wp2
            go_ret
            rw [← HJ.out, ← (hP j).out]
            exact ⟨_, rfl, hOr2, hb2⟩
end Go.Proofs.Ytcembocnkndlhaa
