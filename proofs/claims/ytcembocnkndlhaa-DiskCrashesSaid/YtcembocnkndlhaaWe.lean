/- The walks of Write, Restart, New. -/
import Derived.Test.YtcembocnkndlhaaWd
namespace Go.Proofs.Ytcembocnkndlhaa
open Go.RowKit
theorem failure_eq {v : Value} {d : Dk} {k : Int} {w : World} (h : IsDisk w v d) (r : Int) (hr : failure d k = r) :
    Calls Try.prog 56 #[v, .int .i64 k] w fun e w' => e = .returned (.int .i64 r) ∧ Below w.heap.size w w' := by
  subst hr; exact failure_any v d k w h
theorem cells_two_new (w : World) (x y : Value) (t : TypeId) : ∀ j u, [x, y][j]? = some u → (w.alloc (.cells #[x, y] t)).cell? ((⟨w.heap.size, 0, none⟩ : Addr).add j) = some u := by
  intro j u hj
  have e : (w.alloc (.cells #[x, y] t)).heap[w.heap.size]? = some (.cells #[x, y] t) := heap_alloc_new w _
  match j, hj with
  | 0, hj => simp at hj; subst hj; exact cell_of_row _ w.heap.size 0 #[x, y] t (0, 0) e
  | 1, hj => simp at hj; subst hj; exact cell_of_row _ w.heap.size 1 #[x, y] t (0, 0) e
theorem below6 {w3 w4 w5 w6 : World} {v4 : Value} {o : Obj} {n : Nat} {e : TypeId} {size : Nat} {xs : List Value} (b4 : Below w3.heap.size w3 w4) (b5 : Below w4.heap.size w4 w5) (h : w5.ownsRow w3.heap.size e size v4 n xs) (hg : (w5.alloc o).grownBy w6 v4.ownBlock) : Below w3.heap.size w3 w6 := by
  have hs := (below_trans b4 b5).size
  refine Below.grown ((below_trans b4 b5).alloc hs o) hg (by simp; omega) (own_from h)
theorem writes_snoc {w wF : World} {base : Nat} {v u : Value} {ps : List (Int × Value)} {L : List Wt} {k : Int} {data : List UInt8} (h : wF.ownsRow base 49 2 v (ps.length + 1) (ps.flatMap encW ++ [.int .i64 k, u])) (h2 : ps.length = L.length)
    (h3 : ∀ (i : Nat) (p : Int × Value) (x : Wt), ps[i]? = some p → L[i]? = some x → p.1 = x.at_ ∧ IsBytes w p.2 x.data) (hb : Below w.heap.size w wF) (hu : IsBytes wF u data) (hm : ps.length + 1 ≤ 9223372036854775807) : IsWrites wF v (L ++ [⟨k, data⟩]) := by
  have e : ps.flatMap encW ++ [.int .i64 k, u] = (ps ++ [(k, u)]).flatMap encW := by rw [List.flatMap_append]; rfl
  rw [e] at h
  have hl : ps.length + 1 = (ps ++ [(k, u)]).length := by simp
  rw [hl] at h hm
  refine ⟨ps ++ [(k, u)], IsRows.of_owns h (fun _ _ => rfl) hm, by simp [h2], fun i p x hp hx => ?_⟩
  rcases Nat.lt_or_ge i ps.length with hi | hi
  · rw [List.getElem?_append_left hi] at hp
    rw [List.getElem?_append_left (by omega)] at hx
    exact ⟨(h3 i p x hp hx).1, (h3 i p x hp hx).2.keep hb⟩
  · rw [List.getElem?_append_right hi] at hp
    rw [List.getElem?_append_right (by omega)] at hx
    have h0 : i - ps.length = 0 := by
      have := (List.getElem?_eq_some_iff.1 hp).1
      simp at this; omega
    rw [← h2, h0] at hx
    rw [h0] at hp
    obtain rfl : (k, u) = p := by simpa using hp
    obtain rfl : (⟨k, data⟩ : Wt) = x := by simpa using hx
    exact ⟨rfl, hu⟩
/-- What Write, Sync and their like hand back. -/
def DiskErr (r : Dk × Int) (w : World) (e : Ending) (w' : World) : Prop := ∃ v, e = .returned (.tuple #[v, .int .i64 r.2]) ∧ IsDisk w' v r.1 ∧ Below w.heap.size w w'
set_option maxHeartbeats 2000000 in
set_option maxRecDepth 100000 in
theorem Write_any (v : Value) (d : Dk) (k : Int) (bv : Value) (l : List UInt8) (w : World) (h : IsDisk w v d) (hb : IsBytes w bv l) (hl : d.writes.length ≤ 100000000) :
    Calls Try.prog 19 #[v, .int .i64 k, bv] w (DiskErr (writeD d k l) w) := by
  obtain ⟨i0, hi, hz0, hz1, hz2⟩ := info_parts info49
  have h0 := h
  have hb0 := hb
  obtain ⟨pa, pc, wa, wc, rfl, hp, hw, m1, m2⟩ := h.shape
  obtain ⟨ba, bc, rfl, -, mb⟩ := hb
  obtain ⟨C, hC⟩ : ∃ C, C = Obj.cells #[.slice pa d.pages.length pc, .slice wa d.writes.length wc, .bool d.down] 25 := ⟨_, rfl⟩
  obtain ⟨Z, hZ⟩ : ∃ Z, Z = Obj.cells #[.slice none 0 0, .slice none 0 0, .bool false] 25 := ⟨_, rfl⟩
  obtain ⟨wb, hwb⟩ : ∃ x : World, x = (w.alloc C).alloc Z := ⟨_, rfl⟩
  have b1 := below_new w C
  have b2 : Below (w.alloc C).heap.size (w.alloc C) wb := by subst hwb; exact below_new _ _
  have b0 := below_trans b1 b2
  by_cases h64 : 64 < l.length
  · have H := Lib.hid (show writeD d k l = (noDisk, 1) by unfold writeD; rw [if_pos (by omega)])
    go_enter Try.func19, Try.ntmps19
    go_wp2
    refine bodyPost_ret (v := .tuple #[zeroV, .int .i64 1]) (by simp [results, Try.results19, go_sem, zeroV]) rfl ?_
    rw [← hC, ← hZ, ← hwb]
    refine ⟨zeroV, ?_, ?_, b0⟩
    · rw [H.out]
    · rw [H.out]; exact IsDisk.zero _
  · have h64' : l.length ≤ 64 := by omega
    by_cases hf : failure d k = 0
    · have H := Lib.hid (show writeD d k l = (⟨d.pages, d.writes ++ [⟨k, full l⟩], d.down⟩, 0) by unfold writeD; rw [if_neg h64, if_neg (by simp [hf])])
      have HF := Lib.hid hf
      clear hf
      go_enter Try.func19, Try.ntmps19
      go_wp2_with fail
      rw [← hC, ← hZ, ← hwb]
      refine (failure_eq (h0.keep b0) _ HF.out).mono ?_
      rintro e w3 ⟨rfl, b3⟩
      have g0 : wb.heap[w.heap.size]? = some (.cells #[.slice pa d.pages.length pc, .slice wa d.writes.length wc, .bool d.down] 25 (0, 0)) := by
        subst hC; exact box_at b2
      have g1 : wb.heap[w.heap.size + 1]? = some (.cells #[.slice none 0 0, .slice none 0 0, .bool false] 25 (0, 0)) := by
        subst hwb hZ
        have := heap_alloc_new (w.alloc C) (.cells #[.slice none 0 0, .slice none 0 0, .bool false] 25)
        simpa using this
      have k0 := block_keep g0 b3
      obtain ⟨y0, y1, y2, -, -, -⟩ := Box3.of k0
      obtain ⟨ps, hr, hq2, hq3⟩ := hw
      have hone := writes_one hq2 hq3
      have b03 := below_trans b0 b3
      go_wp2_with fail
      refine (clone_any _ ps _ (hr.keep (keeps_below b03)) hone (by omega)).mono ?_
      rintro e w4 ⟨v4, rfl, h4, b4⟩
      go_wp2_with fail
      refine (full_any _ l _ (hb0.keep (below_trans b03 b4))).mono ?_
      rintro e w5 ⟨v5, rfl, h5, b5⟩
      obtain ⟨q5, rfl, hq5, hg5, hl5⟩ := h5
      have h45 := own_keep h4 b5
      have hE := Lib.hid hq2
      have hps : ps.length ≤ 100000000 := by omega
      have hs5 := b5.size
      have hs4 := b4.size
      have hs3 := b3.size
      have hsb : wb.heap.size = w.heap.size + 1 + 1 := by subst hwb; simp
      have hgl : q5 < w5.heap.size := block_lt hg5
      have hnew : ∀ j u, ([Value.int .i64 k, .slice (some ⟨q5, 0, none⟩) 64 64] : List Value)[j]? = some u → (w5.alloc (.cells #[.int .i64 k, .slice (some ⟨q5, 0, none⟩) 64 64] 49)).cell? ((⟨w5.heap.size, 0, none⟩ : Addr).add j) = some u := cells_two_new _ _ _ _
      have HN := Lib.hid hnew
      have h1n : ∀ u ∈ ([Value.int .i64 k, .slice (some ⟨q5, 0, none⟩) 64 64] : List Value), u.oneCell' = true := by
        intro u hu; simp at hu; rcases hu with rfl | rfl <;> rfl
      have H1 := Lib.hid h1n
      clear hq2 hnew h1n y0 y1 y2
      go_wp2_with (at_builtin; refine wpList_append_own _ rfl _ _ 23 rfl w3.heap.size 49 i0 (.agg #[.int .i64 0, .slice none 0 0]) 2 32 Try.underlying23 hi hz0 hz1 hz2 rfl (by decide) _ _ _ rfl (h45.alloc _) ⟨w5.heap.size, 0, none⟩ 1 1 [.int .i64 k, .slice (some ⟨q5, 0, none⟩) 64 64] rfl rfl HN.out H1.out (by unfold maxLen; omega) (by omega) (by simp; omega) ?_; intro v6 w6 hown6 hgrow6 _; obtain ⟨g6, cap6, rfl, hg6⟩ := own_succ hown6; have b36 := below6 b4 b5 h45 hgrow6; obtain ⟨z0, z1, z2, zf0, zf1, zf2⟩ := Box3.of (block_keep g0 (below_trans b3 b36)); obtain ⟨u0, u1, u2, uf0, uf1, uf2⟩ := Box3.of (block_keep g1 (below_trans b3 b36)))
      refine bodyPost_ret (v := .tuple #[.agg #[.slice pa d.pages.length pc, .slice (some ⟨g6, 0, none⟩) (ps.length + 1) cap6, .bool d.down], .int .i64 0]) ?_ rfl ?_
      · simp [results, Try.results19, go_sem, u0, u1, u2]
      · have bF := (((below_trans b0 (below_trans b3 b36)).setCell (p := ⟨w.heap.size, 1, none⟩) (Nat.le_refl _) (.slice (some ⟨g6, 0, none⟩) (ps.length + 1) cap6)).setCell (p := ⟨w.heap.size + 1, 0, none⟩) (by simp) (.slice pa d.pages.length pc) |>.setCell (p := ⟨w.heap.size + 1, 1, none⟩) (by simp) (.slice (some ⟨g6, 0, none⟩) (ps.length + 1) cap6)).setCell (p := ⟨w.heap.size + 1, 2, none⟩) (by simp) (.bool d.down)
        have oF := own_store (own_store (own_store (own_store hown6 (p := ⟨w.heap.size, 1, none⟩) (by simp; omega) (.slice (some ⟨g6, 0, none⟩) (ps.length + 1) cap6)) (p := ⟨w.heap.size + 1, 0, none⟩) (by simp; omega) (.slice pa d.pages.length pc)) (p := ⟨w.heap.size + 1, 1, none⟩) (by simp; omega) (.slice (some ⟨g6, 0, none⟩) (ps.length + 1) cap6)) (p := ⟨w.heap.size + 1, 2, none⟩) (by simp; omega) (.bool d.down)
        have p5 : OwnPage w5 w4.heap.size (.slice (some ⟨q5, 0, none⟩) 64 64) (full l) := ⟨q5, rfl, hq5, hg5, hl5⟩
        have p6 : OwnPage w6 w4.heap.size (.slice (some ⟨q5, 0, none⟩) 64 64) (full l) := by
          refine ⟨q5, rfl, hq5, ?_, hl5⟩
          rw [hgrow6.block q5 (by simp; omega) (fun e => ?_)]
          · exact (Below.heap_alloc _ _ _ hgl).trans hg5
          · have := h4.lt q5 e.symm; omega
        have pF := OwnPage.store (OwnPage.store (OwnPage.store (OwnPage.store p6 (p := ⟨w.heap.size, 1, none⟩) (by simp; omega) (.slice (some ⟨g6, 0, none⟩) (ps.length + 1) cap6)) (p := ⟨w.heap.size + 1, 0, none⟩) (by simp; omega) (.slice pa d.pages.length pc)) (p := ⟨w.heap.size + 1, 1, none⟩) (by simp; omega) (.slice (some ⟨g6, 0, none⟩) (ps.length + 1) cap6)) (p := ⟨w.heap.size + 1, 2, none⟩) (by simp; omega) (.bool d.down)
        refine ⟨_, by rw [H.out], ?_, bF⟩
        rw [H.out]
        exact ⟨_, _, rfl, hp.keep bF, writes_snoc oF hE.out hq3 bF pF.bytes (by omega)⟩
    · have H := Lib.hid (show writeD d k l = (noDisk, failure d k) by unfold writeD; rw [if_neg h64, if_pos hf])
      have hne := ne_beq hf
      have hbq : (failure d k != 0) = true := by simpa using hf
      generalize hR : failure d k = R at *
      have HR := Lib.hid hR
      clear hR
      go_enter Try.func19, Try.ntmps19
      go_wp2_with fail
      rw [← hC, ← hZ, ← hwb]
      refine (failure_eq (h0.keep b0) _ HR.out).mono ?_
      rintro e w3 ⟨rfl, b3⟩
      have g1 : wb.heap[w.heap.size + 1]? = some (.cells #[.slice none 0 0, .slice none 0 0, .bool false] 25 (0, 0)) := by
        subst hwb hZ
        have := heap_alloc_new (w.alloc C) (.cells #[.slice none 0 0, .slice none 0 0, .bool false] 25)
        simpa using this
      obtain ⟨u0, u1, u2, uf0, uf1, uf2⟩ := Box3.of (block_keep g1 b3)
      go_wp2
      refine bodyPost_ret (v := .tuple #[zeroV, .int .i64 R]) (by simp [results, Try.results19, go_sem, zeroV, u0, u1, u2]) rfl ?_
      refine ⟨zeroV, by rw [H.out], by rw [H.out]; exact IsDisk.zero _, ?_⟩
      exact (((below_trans b0 b3).setCell (p := ⟨w.heap.size + 1, 0, none⟩) (by simp) _).setCell (p := ⟨w.heap.size + 1, 1, none⟩) (by simp) _).setCell (p := ⟨w.heap.size + 1, 2, none⟩) (by simp) _
end Go.Proofs.Ytcembocnkndlhaa
