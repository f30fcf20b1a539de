/- A disk that reads in every world that differs at some blocks alone; Write keeps it so. -/
import Derived.Test.YtcembocnkndlhaaUe
namespace Go.Proofs.Ytcembocnkndlhaa
open Go.RowKit
/-- W has each of w's blocks but those of B. -/
def Agree (B : Nat → Prop) (w W : World) : Prop := ∀ i, i < w.heap.size → ¬ B i → W.heap[i]? = w.heap[i]?
theorem Agree.refl (B : Nat → Prop) (w : World) : Agree B w w := fun _ _ _ => rfl
theorem Agree.below {B : Nat → Prop} {w w' W : World} (h : Agree B w' W) (hb : Below w.heap.size w w') : Agree B w W := fun i hi hB => (h i (Nat.lt_of_lt_of_le hi hb.size) hB).trans (hb.block i hi)
theorem Agree.store {B : Nat → Prop} {w W : World} {p : Addr} {x : Value} (h : Agree B (w.setCell p x) W) (hp : B p.block) : Agree B w W := fun i hi hB => by
  have hne : p.block ≠ i := fun e => hB (e ▸ hp)
  refine (h i (by simpa [World.setCell] using hi) hB).trans ?_
  simp [World.setCell, Array.getElem?_modify, hne]
theorem keeps_of_heap {w W : World} (h : ∀ i, i < w.heap.size → W.heap[i]? = w.heap[i]?) : Keeps w W := fun p v hp => by
  have := h p.block (cell_lt hp)
  unfold World.cell? at hp ⊢
  rw [this]; exact hp
theorem Agree.keeps {B : Nat → Prop} {w w' W : World} (h : Agree B w' W) (hb : Below w.heap.size w w') (hB : ∀ β, B β → w.heap.size ≤ β) : Keeps w W := by
  refine keeps_of_heap fun i hi => ?_
  exact (h i (Nat.lt_of_lt_of_le hi hb.size) fun e => by have := hB i e; omega).trans (hb.block i hi)
def OffDisk (B : Nat → Prop) (w : World) (v : Value) (d : Dk) : Prop :=
  ∃ (pv wv : Value) (ps : List (Int × Value)), v = .agg #[pv, wv, .bool d.down] ∧ ps.length = d.writes.length ∧ ∀ W, Agree B w W → IsPages W pv d.pages ∧ IsRows 2 encW W wv ps ∧ ∀ (i : Nat) (p : Int × Value) (x : Wt), ps[i]? = some p → d.writes[i]? = some x → p.1 = x.at_ ∧ IsBytes W p.2 x.data
theorem OffDisk.at_ {B : Nat → Prop} {w W : World} {v : Value} {d : Dk} (h : OffDisk B w v d) (ha : Agree B w W) : IsDisk W v d := by
  obtain ⟨pv, wv, ps, hv, hl, hAll⟩ := h
  obtain ⟨h1, h2, h3⟩ := hAll W ha
  exact ⟨pv, wv, hv, h1, ps, h2, hl, h3⟩
theorem OffDisk.is {B : Nat → Prop} {w : World} {v : Value} {d : Dk} (h : OffDisk B w v d) : IsDisk w v d := h.at_ (Agree.refl B w)
theorem OffDisk.keep {B : Nat → Prop} {w w' : World} {v : Value} {d : Dk} (h : OffDisk B w v d) (hb : Below w.heap.size w w') : OffDisk B w' v d := by
  obtain ⟨pv, wv, ps, hv, hl, hAll⟩ := h
  exact ⟨pv, wv, ps, hv, hl, fun W hW => hAll W (hW.below hb)⟩
theorem OffDisk.store {B : Nat → Prop} {w : World} {v : Value} {d : Dk} (h : OffDisk B w v d) {p : Addr} (hp : B p.block) (x : Value) : OffDisk B (w.setCell p x) v d := by
  obtain ⟨pv, wv, ps, hv, hl, hAll⟩ := h
  exact ⟨pv, wv, ps, hv, hl, fun W hW => hAll W (hW.store hp)⟩
theorem OffDisk.zero (B : Nat → Prop) (w : World) : OffDisk B w zeroV noDisk := ⟨_, _, [], rfl, rfl, fun W _ => ⟨IsPages.nil W, ⟨none, 0, rfl, .inl rfl, by simp, by simp, by simp⟩, by simp⟩⟩
theorem IsDisk.off {B : Nat → Prop} {w w' : World} {v : Value} {d : Dk} (h : IsDisk w v d) (hb : Below w.heap.size w w') (hB : ∀ β, B β → w.heap.size ≤ β) : OffDisk B w' v d := by
  obtain ⟨pv, wv, hv, ⟨vs, h1, h2, h3⟩, ps, k1, k2, k3⟩ := h
  refine ⟨pv, wv, ps, hv, k2, fun W hW => ?_⟩
  have hk := hW.keeps hb hB
  exact ⟨⟨vs, h1.keep hk, h2, fun i u l hu hl => IsRows.keep (h3 i u l hu hl) hk⟩, k1.keep hk, fun i p x hp hx => ⟨(k3 i p x hp hx).1, IsRows.keep (k3 i p x hp hx).2 hk⟩⟩
def DiskErrOff (B : Nat → Prop) (r : Dk × Int) (w : World) (e : Ending) (w' : World) : Prop := ∃ v, e = .returned (.tuple #[v, .int .i64 r.2]) ∧ OffDisk B w' v r.1 ∧ Below w.heap.size w w'
theorem own_agree {w W : World} {base : Nat} {e : TypeId} {size n : Nat} {v : Value} {xs : List Value} (h : w.ownsRow base e size v n xs) (hW : ∀ i, base ≤ i → i < w.heap.size → W.heap[i]? = w.heap[i]?) : W.ownsRow base e size v n xs := by
  obtain ⟨h0, h1⟩ := h
  refine ⟨h0, ?_⟩
  rcases h1 with h1 | ⟨g, cap, cur, e1, hg, hh, r⟩
  · exact .inl h1
  · exact .inr ⟨g, cap, cur, e1, hg, (hW g hg (block_lt hh)).trans hh, r⟩
theorem off_snoc {B : Nat → Prop} {w wF : World} {base b2 : Nat} {pv wv v u : Value} {ps : List (Int × Value)} {d : Dk} {k : Int} {data : List UInt8} {dn : Bool} (hAll : ∀ W, Agree B w W → IsPages W pv d.pages ∧ IsRows 2 encW W wv ps ∧ ∀ (i : Nat) (p : Int × Value) (x : Wt), ps[i]? = some p → d.writes[i]? = some x → p.1 = x.at_ ∧ IsBytes W p.2 x.data)
    (hB : ∀ β, B β → β < w.heap.size) (h2 : ps.length = d.writes.length) (h : wF.ownsRow base 49 2 v (ps.length + 1) (ps.flatMap encW ++ [.int .i64 k, u])) (hb : Below w.heap.size w wF) (hu : OwnPage wF b2 u data) (hbase : w.heap.size ≤ base) (hb2 : w.heap.size ≤ b2) (hm : ps.length + 1 ≤ 9223372036854775807) :
    OffDisk B wF (.agg #[pv, v, .bool dn]) ⟨d.pages, d.writes ++ [⟨k, data⟩], dn⟩ := by
  have e : ps.flatMap encW ++ [.int .i64 k, u] = (ps ++ [(k, u)]).flatMap encW := by rw [List.flatMap_append]; rfl
  rw [e] at h
  have hl : ps.length + 1 = (ps ++ [(k, u)]).length := by simp
  rw [hl] at h hm
  refine ⟨pv, v, ps ++ [(k, u)], rfl, by simp [h2], fun W hW => ?_⟩
  have hag : ∀ i, w.heap.size ≤ i → i < wF.heap.size → W.heap[i]? = wF.heap[i]? := fun i h1 h2 => hW i h2 fun e => by have := hB i e; omega
  obtain ⟨a1, a2, a3⟩ := hAll W (hW.below hb)
  have hu' : OwnPage W b2 u data := by
    obtain ⟨g, e1, e2, e3, e4⟩ := hu
    exact ⟨g, e1, e2, (hag g (by omega) (block_lt e3)).trans e3, e4⟩
  refine ⟨a1, IsRows.of_owns (own_agree h fun i x y => hag i (by omega) y) (fun _ _ => rfl) hm, fun i p x hp hx => ?_⟩
  dsimp only at hx
  rcases Nat.lt_or_ge i ps.length with hi | hi
  · rw [List.getElem?_append_left hi] at hp
    rw [List.getElem?_append_left (by omega)] at hx
    exact a3 i p x hp hx
  · rw [List.getElem?_append_right hi] at hp
    rw [List.getElem?_append_right (by omega)] at hx
    have h0 : i - ps.length = 0 := by
      have := (List.getElem?_eq_some_iff.1 hp).1
      simp at this; omega
    rw [← h2, h0] at hx
    rw [h0] at hp
    obtain rfl : (k, u) = p := by simpa using hp
    obtain rfl : (⟨k, data⟩ : Wt) = x := by simpa using hx
    exact ⟨rfl, hu'.bytes⟩
set_option maxHeartbeats 2000000 in
set_option maxRecDepth 100000 in
theorem Write_off (B : Nat → Prop) (v : Value) (d : Dk) (k : Int) (bv : Value) (l : List UInt8) (w : World) (ho : OffDisk B w v d) (hB : ∀ β, B β → β < w.heap.size) (hb : IsBytes w bv l) (hl : d.writes.length ≤ 100000000) :
    Calls Try.prog 19 #[v, .int .i64 k, bv] w (DiskErrOff B (writeD d k l) w) := by
  obtain ⟨i0, hi, hz0, hz1, hz2⟩ := info_parts info49
  have h0 := ho.is
  have hb0 := hb
  obtain ⟨pv, wv, ps, hv, hq2, hAll⟩ := ho
  obtain ⟨pa, pc, wa, wc, e, hp, hw, m1, m2⟩ := h0.shape
  subst e
  simp at hv
  obtain ⟨rfl, rfl⟩ := hv
  have HALL := Lib.hid hAll
  have HB := Lib.hid hB
  clear hAll hB
  obtain ⟨ba, bc, rfl, -, mb⟩ := hb
  obtain ⟨C, hC⟩ : ∃ C, C = Obj.cells #[.slice pa d.pages.length pc, .slice wa d.writes.length wc, .bool d.down] 25 := ⟨_, rfl⟩
  obtain ⟨Z, hZ⟩ : ∃ Z, Z = Obj.cells #[.slice none 0 0, .slice none 0 0, .bool false] 25 := ⟨_, rfl⟩
  obtain ⟨wb, hwb⟩ : ∃ x : World, x = (w.alloc C).alloc Z := ⟨_, rfl⟩
  have b1 := below_new w C
  have b2 : Below (w.alloc C).heap.size (w.alloc C) wb := by subst hwb; exact below_new _ _
  have b0 := below_trans b1 b2
  by_cases h64 : 64 < l.length
  · have H := Lib.hid (show writeD d k l = (noDisk, 1) by unfold writeD; rw [if_pos (by omega)])
    go_enter Try.func19, Try.ntmps19
    go_wp2
    refine bodyPost_ret (v := .tuple #[zeroV, .int .i64 1]) (by simp [results, Try.results19, go_sem, zeroV]) rfl ?_
    rw [← hC, ← hZ, ← hwb]
    refine ⟨zeroV, ?_, ?_, b0⟩
    · rw [H.out]
    · rw [H.out]; exact OffDisk.zero B _
  · have h64' : l.length ≤ 64 := by omega
    by_cases hf : failure d k = 0
    · have H := Lib.hid (show writeD d k l = (⟨d.pages, d.writes ++ [⟨k, full l⟩], d.down⟩, 0) by unfold writeD; rw [if_neg h64, if_neg (by simp [hf])])
      have HF := Lib.hid hf
      clear hf
      go_enter Try.func19, Try.ntmps19
      go_wp2_with fail
      rw [← hC, ← hZ, ← hwb]
      refine (failure_eq (h0.keep b0) _ HF.out).mono ?_
      rintro e w3 ⟨rfl, b3⟩
      have g0 : wb.heap[w.heap.size]? = some (.cells #[.slice pa d.pages.length pc, .slice wa d.writes.length wc, .bool d.down] 25 (0, 0)) := by
        subst hC; exact box_at b2
      have g1 : wb.heap[w.heap.size + 1]? = some (.cells #[.slice none 0 0, .slice none 0 0, .bool false] 25 (0, 0)) := by
        subst hwb hZ
        have := heap_alloc_new (w.alloc C) (.cells #[.slice none 0 0, .slice none 0 0, .bool false] 25)
        simpa using this
      have k0 := block_keep g0 b3
      obtain ⟨y0, y1, y2, -, -, -⟩ := Box3.of k0
      have hr := (HALL.out w (Agree.refl B w)).2.1
      have hq3 := (HALL.out w (Agree.refl B w)).2.2
      have hone := writes_one hq2 hq3
      have b03 := below_trans b0 b3
      go_wp2_with fail
      refine (clone_any _ ps _ (hr.keep (keeps_below b03)) hone (by omega)).mono ?_
      rintro e w4 ⟨v4, rfl, h4, b4⟩
      go_wp2_with fail
      refine (full_any _ l _ (hb0.keep (below_trans b03 b4))).mono ?_
      rintro e w5 ⟨v5, rfl, h5, b5⟩
      obtain ⟨q5, rfl, hq5, hg5, hl5⟩ := h5
      have h45 := own_keep h4 b5
      have hE := Lib.hid hq2
      have hps : ps.length ≤ 100000000 := by omega
      have hs5 := b5.size
      have hs4 := b4.size
      have hs3 := b3.size
      have hsb : wb.heap.size = w.heap.size + 1 + 1 := by subst hwb; simp
      have hgl : q5 < w5.heap.size := block_lt hg5
      have hnew : ∀ j u, ([Value.int .i64 k, .slice (some ⟨q5, 0, none⟩) 64 64] : List Value)[j]? = some u → (w5.alloc (.cells #[.int .i64 k, .slice (some ⟨q5, 0, none⟩) 64 64] 49)).cell? ((⟨w5.heap.size, 0, none⟩ : Addr).add j) = some u := cells_two_new _ _ _ _
      have HN := Lib.hid hnew
      have h1n : ∀ u ∈ ([Value.int .i64 k, .slice (some ⟨q5, 0, none⟩) 64 64] : List Value), u.oneCell' = true := by
        intro u hu; simp at hu; rcases hu with rfl | rfl <;> rfl
      have H1 := Lib.hid h1n
      clear hq2 hnew h1n y0 y1 y2
      go_wp2_with (at_builtin; refine wpList_append_own _ rfl _ _ 23 rfl w3.heap.size 49 i0 (.agg #[.int .i64 0, .slice none 0 0]) 2 32 Try.underlying23 hi hz0 hz1 hz2 rfl (by decide) _ _ _ rfl (h45.alloc _) ⟨w5.heap.size, 0, none⟩ 1 1 [.int .i64 k, .slice (some ⟨q5, 0, none⟩) 64 64] rfl rfl HN.out H1.out (by unfold maxLen; omega) (by omega) (by simp; omega) ?_; intro v6 w6 hown6 hgrow6 _; obtain ⟨g6, cap6, rfl, hg6⟩ := own_succ hown6; have b36 := below6 b4 b5 h45 hgrow6; obtain ⟨z0, z1, z2, zf0, zf1, zf2⟩ := Box3.of (block_keep g0 (below_trans b3 b36)); obtain ⟨u0, u1, u2, uf0, uf1, uf2⟩ := Box3.of (block_keep g1 (below_trans b3 b36)))
      refine bodyPost_ret (v := .tuple #[.agg #[.slice pa d.pages.length pc, .slice (some ⟨g6, 0, none⟩) (ps.length + 1) cap6, .bool d.down], .int .i64 0]) ?_ rfl ?_
      · simp [results, Try.results19, go_sem, u0, u1, u2]
      · have bF := (((below_trans b0 (below_trans b3 b36)).setCell (p := ⟨w.heap.size, 1, none⟩) (Nat.le_refl _) (.slice (some ⟨g6, 0, none⟩) (ps.length + 1) cap6)).setCell (p := ⟨w.heap.size + 1, 0, none⟩) (by simp) (.slice pa d.pages.length pc) |>.setCell (p := ⟨w.heap.size + 1, 1, none⟩) (by simp) (.slice (some ⟨g6, 0, none⟩) (ps.length + 1) cap6)).setCell (p := ⟨w.heap.size + 1, 2, none⟩) (by simp) (.bool d.down)
        have oF := own_store (own_store (own_store (own_store hown6 (p := ⟨w.heap.size, 1, none⟩) (by simp; omega) (.slice (some ⟨g6, 0, none⟩) (ps.length + 1) cap6)) (p := ⟨w.heap.size + 1, 0, none⟩) (by simp; omega) (.slice pa d.pages.length pc)) (p := ⟨w.heap.size + 1, 1, none⟩) (by simp; omega) (.slice (some ⟨g6, 0, none⟩) (ps.length + 1) cap6)) (p := ⟨w.heap.size + 1, 2, none⟩) (by simp; omega) (.bool d.down)
        have p5 : OwnPage w5 w4.heap.size (.slice (some ⟨q5, 0, none⟩) 64 64) (full l) := ⟨q5, rfl, hq5, hg5, hl5⟩
        have p6 : OwnPage w6 w4.heap.size (.slice (some ⟨q5, 0, none⟩) 64 64) (full l) := by
          refine ⟨q5, rfl, hq5, ?_, hl5⟩
          rw [hgrow6.block q5 (by simp; omega) (fun e => ?_)]
          · exact (Below.heap_alloc _ _ _ hgl).trans hg5
          · have := h4.lt q5 e.symm; omega
        have pF := OwnPage.store (OwnPage.store (OwnPage.store (OwnPage.store p6 (p := ⟨w.heap.size, 1, none⟩) (by simp; omega) (.slice (some ⟨g6, 0, none⟩) (ps.length + 1) cap6)) (p := ⟨w.heap.size + 1, 0, none⟩) (by simp; omega) (.slice pa d.pages.length pc)) (p := ⟨w.heap.size + 1, 1, none⟩) (by simp; omega) (.slice (some ⟨g6, 0, none⟩) (ps.length + 1) cap6)) (p := ⟨w.heap.size + 1, 2, none⟩) (by simp; omega) (.bool d.down)
        refine ⟨_, by rw [H.out], ?_, bF⟩
        rw [H.out]
        exact off_snoc HALL.out HB.out hE.out oF bF pF (by omega) (by omega) (by omega)
    · have H := Lib.hid (show writeD d k l = (noDisk, failure d k) by unfold writeD; rw [if_neg h64, if_pos hf])
      have hne := ne_beq hf
      have hbq : (failure d k != 0) = true := by simpa using hf
      generalize hR : failure d k = R at *
      have HR := Lib.hid hR
      clear hR
      go_enter Try.func19, Try.ntmps19
      go_wp2_with fail
      rw [← hC, ← hZ, ← hwb]
      refine (failure_eq (h0.keep b0) _ HR.out).mono ?_
      rintro e w3 ⟨rfl, b3⟩
      have g1 : wb.heap[w.heap.size + 1]? = some (.cells #[.slice none 0 0, .slice none 0 0, .bool false] 25 (0, 0)) := by
        subst hwb hZ
        have := heap_alloc_new (w.alloc C) (.cells #[.slice none 0 0, .slice none 0 0, .bool false] 25)
        simpa using this
      obtain ⟨u0, u1, u2, uf0, uf1, uf2⟩ := Box3.of (block_keep g1 b3)
      go_wp2
      refine bodyPost_ret (v := .tuple #[zeroV, .int .i64 R]) (by simp [results, Try.results19, go_sem, zeroV, u0, u1, u2]) rfl ?_
      refine ⟨zeroV, by rw [H.out], by rw [H.out]; exact OffDisk.zero B _, ?_⟩
      exact (((below_trans b0 b3).setCell (p := ⟨w.heap.size + 1, 0, none⟩) (by simp) _).setCell (p := ⟨w.heap.size + 1, 1, none⟩) (by simp) _).setCell (p := ⟨w.heap.size + 1, 2, none⟩) (by simp) _
end Go.Proofs.Ytcembocnkndlhaa
