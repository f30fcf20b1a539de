/- The walk of Read. -/
import Derived.Test.YtcembocnkndlhaaWk
namespace Go.Proofs.Ytcembocnkndlhaa
open Go.RowKit Go.Shelf
attribute [local go_sem] Oper.semAt_some
/-- What Read hands back. -/
def BytesErr (r : List UInt8 × Int) (w : World) (e : Ending) (w' : World) : Prop := ∃ v, e = .returned (.tuple #[v, .int .i64 r.2]) ∧ IsBytes w' v r.1 ∧ Below w.heap.size w w'
theorem look_hit {d : Dk} {k : Int} {i : Nat} (hi : i < d.writes.length) (h : d.writes[i].at_ = k) (hn : ∀ j (hj : j < d.writes.length), i < j → d.writes[j].at_ ≠ k) : look d k = full d.writes[i].data := by
  have e : d.writes = d.writes.take i ++ d.writes[i] :: d.writes.drop (i + 1) := by rw [List.getElem_cons_drop, List.take_append_drop]
  unfold look
  have : d.writes.reverse.find? (fun w => decide (w.at_ = k)) = some d.writes[i] := by
    conv => lhs; rw [e]
    rw [List.reverse_append, List.reverse_cons, List.append_assoc, List.find?_append]
    have h1 : (d.writes.drop (i + 1)).reverse.find? (fun w => decide (w.at_ = k)) = none := by
      rw [List.find?_eq_none]
      intro x hx
      rw [List.mem_reverse] at hx
      obtain ⟨j, hj, rfl⟩ := List.getElem_of_mem hx
      rw [List.getElem_drop]
      have := hn (i + 1 + j) (by rw [List.length_drop] at hj; omega) (by omega)
      simpa using this
    rw [h1]
    simp [h]
  rw [this]
theorem look_miss {d : Dk} {k : Int} (hn : ∀ j (hj : j < d.writes.length), d.writes[j].at_ ≠ k) : look d k = if k < d.pages.length then full (d.pages.getD k.toNat []) else full [] := by
  unfold look
  have : d.writes.reverse.find? (fun w => decide (w.at_ = k)) = none := by
    rw [List.find?_eq_none]
    intro x hx
    rw [List.mem_reverse] at hx
    obtain ⟨j, hj, rfl⟩ := List.getElem_of_mem hx
    simpa using hn j hj
  rw [this]
theorem OwnPage.kept {A B : World} {base : Nat} {v : Value} {l : List UInt8} {row : Option Nat} (h : OwnPage A base v l) (hg : A.grownBy B row) (hr : ∀ r, row = some r → ∃ o : Obj, A.heap[r]? = some o ∧ o.isCells = false) : OwnPage B base v l := by
  obtain ⟨g, e, h1, h2, h3⟩ := h
  refine ⟨g, e, h1, (hg.block g (block_lt h2) fun e' => ?_).trans h2, h3⟩
  obtain ⟨o, ho, hc⟩ := hr g e'.symm
  rw [h2] at ho; cases ho; cases hc
theorem OwnPage.mono {w : World} {base base' : Nat} {v : Value} {l : List UInt8} (h : OwnPage w base v l) (hb : base' ≤ base) : OwnPage w base' v l := by
  obtain ⟨g, e, h1, h2, h3⟩ := h
  exact ⟨g, e, by omega, h2, h3⟩
theorem keepsFrom_below {B : Nat} {w w' : World} (h : Below w.heap.size w w') : KeepsFrom B w w' := ⟨h.size, fun _ _ _ hk _ => block_keep hk h⟩
/-- Each write's cells, by its index. -/
theorem writes_fun {w : World} {wa : Option Addr} {n wc : Nat} {L : List Wt} (h : IsWrites w (.slice wa n wc) L) :
    ∃ (fa : Fin L.length → Option Addr) (fc : Fin L.length → Nat), ∀ i : Fin L.length, (∃ b off, wa = some ⟨b, off, none⟩ ∧ w.cell? ⟨b, off + i.1 * 2, none⟩ = some (.int .i64 L[i.1].at_) ∧ w.cell? ⟨b, off + i.1 * 2 + 1, none⟩ = some (.slice (fa i) L[i.1].data.length (fc i))) ∧ IsBytes w (.slice (fa i) L[i.1].data.length (fc i)) L[i.1].data := by
  have key : ∀ i : Fin L.length, ∃ p : Option Addr × Nat, (∃ b off, wa = some ⟨b, off, none⟩ ∧ w.cell? ⟨b, off + i.1 * 2, none⟩ = some (.int .i64 L[i.1].at_) ∧ w.cell? ⟨b, off + i.1 * 2 + 1, none⟩ = some (.slice p.1 L[i.1].data.length p.2)) ∧ IsBytes w (.slice p.1 L[i.1].data.length p.2) L[i.1].data := fun i => by
    obtain ⟨b, off, pa, pc, h1, h2, h3, h4⟩ := h.at_ (List.getElem?_eq_getElem i.2)
    exact ⟨(pa, pc), ⟨b, off, h1, h2, h3⟩, h4⟩
  exact ⟨fun i => (Classical.choose (key i)).1, fun i => (Classical.choose (key i)).2, fun i => Classical.choose_spec (key i)⟩
set_option maxHeartbeats 4000000 in
set_option maxRecDepth 100000 in
theorem Read_err (v : Value) (d : Dk) (k : Int) (w : World) (h : IsDisk w v d) (hf : failure d k ≠ 0) : Calls Try.prog 24 #[v, .int .i64 k] w (BytesErr (readD d k) w) := by
  have h0 := h
  obtain ⟨pa, pc, wa, wcp, rfl, hp, hw, m1, m2, m3⟩ := h.shape
  obtain ⟨C, hC⟩ : ∃ C, C = Obj.cells #[.slice pa d.pages.length pc, .slice wa d.writes.length wcp, .bool d.down] 25 := ⟨_, rfl⟩
  obtain ⟨wb, hwb⟩ : ∃ x : World, x = (((w.alloc C).alloc (.cells #[.int .i64 k] 3)).alloc (.cells #[.slice none 0 0] 26)).alloc (.cells #[.int .i64 0] 29) := ⟨_, rfl⟩
  have hsz : wb.heap.size = w.heap.size + 4 := by subst hwb; simp
  have b0 : Below w.heap.size w wb := by subst hwb; exact below_trans (below_trans (below_trans (below_new _ _) (below_new _ _)) (below_new _ _)) (below_new _ _)
  have x2 : wb.heap[w.heap.size + 1 + 1]? = some (.cells #[.slice none 0 0] 26 (0, 0)) := by
    have h2 : ((w.alloc C).alloc (.cells #[.int .i64 k] 3)).heap.size = w.heap.size + 1 + 1 := by simp
    subst hwb
    exact block_keep (by have := heap_alloc_new ((w.alloc C).alloc (.cells #[.int .i64 k] 3)) (.cells #[.slice none 0 0] 26); rwa [h2] at this) (below_new _ _)
  have x3 : wb.heap[w.heap.size + 1 + 1 + 1]? = some (.cells #[.int .i64 0] 29 (0, 0)) := by
    have h2 : (((w.alloc C).alloc (.cells #[.int .i64 k] 3)).alloc (.cells #[.slice none 0 0] 26)).heap.size = w.heap.size + 1 + 1 + 1 := by simp
    subst hwb
    have := heap_alloc_new (((w.alloc C).alloc (.cells #[.int .i64 k] 3)).alloc (.cells #[.slice none 0 0] 26)) (.cells #[.int .i64 0] 29); rwa [h2] at this
  have H := Lib.hid (show readD d k = ([], failure d k) by unfold readD; rw [if_pos hf])
  have hne := ne_beq hf
  have hbq : (failure d k != 0) = true := by simpa using hf
  generalize hR : failure d k = R at *
  have HR := Lib.hid hR
  clear hR
  go_enter Try.func24, Try.ntmps24
  go_wp2_with fail
  rw [← hC, ← hwb]
  refine (failure_eq (h0.keep b0) _ HR.out).mono ?_
  rintro e w3 ⟨rfl, b3⟩
  have z2 : w3.cell? ⟨w.heap.size + 1 + 1, 0, none⟩ = some (.slice none 0 0) := cell_at (block_keep x2 b3) rfl
  have z3 : w3.cell? ⟨w.heap.size + 1 + 1 + 1, 0, none⟩ = some (.int .i64 0) := cell_at (block_keep x3 b3) rfl
  have f2 : w3.frozen? ⟨w.heap.size + 1 + 1, 0, none⟩ = false := free_at (block_keep x2 b3)
  have f3 : w3.frozen? ⟨w.heap.size + 1 + 1 + 1, 0, none⟩ = false := free_at (block_keep x3 b3)
  go_wp2
  refine bodyPost_ret (v := .tuple #[.slice none 0 0, .int .i64 R]) (by simp [results, Try.results24, go_sem, z2, z3]) rfl ?_
  refine ⟨_, by rw [H.out], by rw [H.out]; exact IsBytes.nil _, ?_⟩
  exact ((below_trans b0 b3).setCell (p := ⟨w.heap.size + 1 + 1, 0, none⟩) (by simp; omega) _).setCell (p := ⟨w.heap.size + 1 + 1 + 1, 0, none⟩) (by simp; omega) _
set_option maxHeartbeats 4000000 in
set_option maxRecDepth 100000 in
theorem Read_in (v : Value) (d : Dk) (k : Int) (w : World) (h : IsDisk w v d) (hf : failure d k = 0) : CallsIn Fence.wide 4 Try.prog 24 #[v, .int .i64 k] w (BytesErr (readD d k) w) := by
  have h0 := h
  obtain ⟨pa, pc, wa, wcp, rfl, hp, hw, m1, m2, m3⟩ := h.shape
  obtain ⟨fa, fc, hfs⟩ := writes_fun hw
  obtain ⟨C, hC⟩ : ∃ C, C = Obj.cells #[.slice pa d.pages.length pc, .slice wa d.writes.length wcp, .bool d.down] 25 := ⟨_, rfl⟩
  obtain ⟨wb, hwb⟩ : ∃ x : World, x = (((w.alloc C).alloc (.cells #[.int .i64 k] 3)).alloc (.cells #[.slice none 0 0] 26)).alloc (.cells #[.int .i64 0] 29) := ⟨_, rfl⟩
  have hsz : wb.heap.size = w.heap.size + 1 + 1 + 1 + 1 := by subst hwb; simp
  have b0 : Below w.heap.size w wb := by subst hwb; exact below_trans (below_trans (below_trans (below_new _ _) (below_new _ _)) (below_new _ _)) (below_new _ _)
  have x0 : wb.heap[w.heap.size]? = some (.cells #[.slice pa d.pages.length pc, .slice wa d.writes.length wcp, .bool d.down] 25 (0, 0)) := by
    subst hwb hC
    exact block_keep (heap_alloc_new w _) (below_trans (below_trans (below_new _ _) (below_new _ _)) (below_new _ _))
  have x1 : wb.heap[w.heap.size + 1]? = some (.cells #[.int .i64 k] 3 (0, 0)) := by
    have h2 : (w.alloc C).heap.size = w.heap.size + 1 := by simp
    subst hwb
    exact block_keep (by have := heap_alloc_new (w.alloc C) (.cells #[.int .i64 k] 3); rwa [h2] at this) (below_trans (below_new _ _) (below_new _ _))
  have x2 : wb.heap[w.heap.size + 1 + 1]? = some (.cells #[.slice none 0 0] 26 (0, 0)) := by
    have h2 : ((w.alloc C).alloc (.cells #[.int .i64 k] 3)).heap.size = w.heap.size + 1 + 1 := by simp
    subst hwb
    exact block_keep (by have := heap_alloc_new ((w.alloc C).alloc (.cells #[.int .i64 k] 3)) (.cells #[.slice none 0 0] 26); rwa [h2] at this) (below_new _ _)
  have x3 : wb.heap[w.heap.size + 1 + 1 + 1]? = some (.cells #[.int .i64 0] 29 (0, 0)) := by
    have h2 : (((w.alloc C).alloc (.cells #[.int .i64 k] 3)).alloc (.cells #[.slice none 0 0] 26)).heap.size = w.heap.size + 1 + 1 + 1 := by simp
    subst hwb
    have := heap_alloc_new (((w.alloc C).alloc (.cells #[.int .i64 k] 3)).alloc (.cells #[.slice none 0 0] 26)) (.cells #[.int .i64 0] 29); rwa [h2] at this
  have H := Lib.hid (show readD d k = (look d k, 0) by unfold readD; rw [if_neg (by simp [hf])])
  obtain ⟨-, -, hk0, hk1⟩ := failure_zero hf
  have HF := Lib.hid hf
  clear hf
  refine callsIn_of_wp_marks Try.func24 rfl trivial ?_ rfl
  simp only [Try.ntmps24, List.size_toArray, List.length_cons, List.length_nil, Nat.reduceAdd, Nat.reduceSub, Array.replicate_succ, Array.replicate_zero, List.push_toArray, List.append_toArray, List.nil_append, List.cons_append]
  gi_wp2_with fail
  rw [← hC, ← hwb]
  clear hC hwb
  refine ⟨trivial, ?_⟩
  refine (callsIn_wide.2 (failure_eq (h0.keep b0) _ HF.out)).mono ?_
  rintro e w3 ⟨rfl, b3⟩
  obtain ⟨y0, y1, y2, -, -, -⟩ := Box3.of (block_keep x0 b3)
  gi_wp2_with fail
  refine ⟨trivial, ?_⟩
  refine (callsIn_wide.2 (back_any _ _ _ _)).mono ?_
  rintro e w4 ⟨rfl, rfl⟩
  have bW : Below w.heap.size w (w3.alloc (.cells #[.slice wa d.writes.length wcp] 23)) := below_trans (below_trans b0 b3) (below_new _ _)
  have bN := Boxed.new w3 23 (.slice wa d.writes.length wcp)
  have hs3 := b3.size
  have hs4 : w3.heap.size + 1 ≤ (w3.alloc (.cells #[.slice wa d.writes.length wcp] 23)).heap.size := by simp
  have bX : Below wb.heap.size wb (w3.alloc (.cells #[.slice wa d.writes.length wcp] 23)) := below_trans b3 (below_new _ _)
  generalize w3.alloc (.cells #[.slice wa d.writes.length wcp] 23) = W0 at *
  gi_wp2_with fail
  have hI1 : ∀ W', Below W0.heap.size W0 W' → W'.cell? ⟨w3.heap.size, 0, none⟩ = some (.slice wa d.writes.length wcp) := fun W' h' => cell_keep h' bN.cell
  have hI2 : ∀ (i : Fin d.writes.length) W', Below W0.heap.size W0 W' → ∃ b off, wa = some ⟨b, off, none⟩ ∧ W'.cell? ⟨b, off + i.1 * 2, none⟩ = some (.int .i64 (d.writes[i.1].at_)) ∧ W'.cell? ⟨b, off + i.1 * 2 + 1, none⟩ = some (.slice (fa i) d.writes[i.1].data.length (fc i)) := fun i W' h' => by
    obtain ⟨⟨b, off, e, c0, c1⟩, _⟩ := hfs i
    exact ⟨b, off, e, cell_keep (below_trans bW h') c0, cell_keep (below_trans bW h') c1⟩
  refine wpIn_rangeFunc_ownH (α := Fin d.writes.length) rfl (by decide) (gf := 76) (lb := #[.pointer (some ⟨w3.heap.size, 0, none⟩)]) rfl trivial (enters_of Try.func76 (by kernel_rfl) rfl)
    (back_stops (fun i => d.writes[i.1].at_) fa (fun i => d.writes[i.1].data.length) fc w3.heap.size W0.heap.size wa wcp (by omega) (by omega) W0 (Nat.le_refl _) hI1 hI2) belowK_t (belowK_b (Nat.le_refl _)) (Below.refl _ _) (fun _ => rfl)
    (fun pre W => (∀ i ∈ pre, d.writes[i.1].at_ ≠ k) ∧ Below W0.heap.size W0 W)
    (fun c pre W => (c = .ret ∧ ∃ ini i, pre = ini ++ [i] ∧ d.writes[i.1].at_ = k ∧ (∀ j ∈ ini, d.writes[j.1].at_ ≠ k) ∧ ∃ q, OwnPage W w.heap.size (pageV q) (full d.writes[i.1].data) ∧ W.cell? ⟨w.heap.size + 1 + 1, 0, none⟩ = some (pageV q) ∧ W.cell? ⟨w.heap.size + 1 + 1 + 1, 0, none⟩ = some (.int .i64 0)) ∧ Below w.heap.size w W)
    (OwnFrom.and (ownFrom_pure _ _) (ownFrom_below (Nat.le_refl _) (Nat.le_refl _)))
    (fun c => OwnFrom.and (Own.from (fun s A B row hs hg hr => by obtain ⟨hc, ini, i, e1, e2, e3, q, e4, e5, e6⟩ := hs; exact ⟨hc, ini, i, e1, e2, e3, q, e4.kept hg hr, cell_kept e5 hg hr, cell_kept e6 hg hr⟩) _) (ownFrom_below (Nat.le_refl _) (by have := bW.size; omega)))
    ⟨by simp, Below.refl _ _⟩
    (fun x a' W => ∃ b, W.cell? ⟨b, 0, none⟩ = some (.int .i64 d.writes[x.1].at_) ∧ W.cell? ⟨b, 1, none⟩ = some (.slice (fa x) d.writes[x.1].data.length (fc x)) ∧
      a' = { tmps := #[.agg #[.slice pa d.pages.length pc, .slice wa d.writes.length wcp, .bool d.down], .int .i64 k, .pointer (some ⟨w.heap.size, 0, none⟩), .pointer (some ⟨w.heap.size + 1, 0, none⟩), .pointer (some ⟨w.heap.size + 1 + 1, 0, none⟩), .pointer (some ⟨w.heap.size + 1 + 1 + 1, 0, none⟩), .int .i64 0, undef, .pointer (some ⟨b, 0, none⟩),
          .agg #[.slice pa d.pages.length pc, .slice wa d.writes.length wcp, .bool d.down], .int .i64 k, .int .i64 0, .int .i64 0, .bool false, undef, .pointer (some ⟨w.heap.size, 1, none⟩), .slice wa d.writes.length wcp, .func (.func 76) #[] #[.pointer (some ⟨w3.heap.size, 0, none⟩)], .int .i64 (x.1 : Int), .agg #[.int .i64 d.writes[x.1].at_, .slice (fa x) d.writes[x.1].data.length (fc x)], undef, undef, undef, undef, undef, undef, undef, undef, undef, undef, undef, undef, undef, undef, undef, undef, undef, undef, undef], defers := [] })
    (fun x a' => Own.from (fun s A B row hs hg hr => by obtain ⟨b, h1, h2, h4⟩ := hs; exact ⟨b, cell_kept h1 hg hr, cell_kept h2 hg hr, h4⟩) _) ?assign ?body ?done ?stop
  case assign =>
    rintro l pre x W K ⟨hne, hB⟩ hK
    unfold encX
    gi_wp2
    exact hK _ _ ((KeepsOthers.alloc _ _).from _) ((Below.refl _ W).alloc hB.size _) ⟨hne, hB.alloc hB.size _⟩ ⟨W.heap.size, cell_at (heap_alloc_new W _) rfl, cell_at (heap_alloc_new W _) rfl, rfl⟩
  case body =>
    rintro l pre x a' W hl hr ⟨hne, hB⟩ ⟨b, c0, c1, rfl⟩ hlt
    have hBw := below_trans bW hB
    have z1 : W.cell? ⟨w.heap.size + 1, 0, none⟩ = some (.int .i64 k) := cell_at (block_keep x1 (below_trans bX hB)) rfl
    have x2' := block_keep x2 (below_trans bX hB)
    have x3' := block_keep x3 (below_trans bX hB)
    by_cases he : d.writes[x.1].at_ = k
    · have hq : (d.writes[x.1].at_ == k) = true := by rw [he]; exact beq_self_eq_true _
      have HE := Lib.hid he
      clear he
      obtain ⟨-, hbx⟩ := hfs x
      gi_wp2_with fail
      refine ⟨trivial, ?_⟩
      refine (CallsIn.inRound l (callsIn_wide.2 (full_any _ d.writes[x.1].data _ (hbx.keep hBw)))).mono ?_
      rintro e w5 ⟨u, rfl, hu, b5⟩
      obtain ⟨q, rfl, hq1, hq2, hq3⟩ := hu
      have z2 : w5.cell? ⟨w.heap.size + 1 + 1, 0, none⟩ = some (.slice none 0 0) := cell_at (block_keep x2' b5) rfl
      have z3 : w5.cell? ⟨w.heap.size + 1 + 1 + 1, 0, none⟩ = some (.int .i64 0) := cell_at (block_keep x3' b5) rfl
      have f2 : w5.frozen? ⟨w.heap.size + 1 + 1, 0, none⟩ = false := free_at (block_keep x2' b5)
      have f3 : w5.frozen? ⟨w.heap.size + 1 + 1 + 1, 0, none⟩ = false := free_at (block_keep x3' b5)
      gi_wp2
      have hs5 := b5.size
      have hsB := hB.size
      refine ⟨?_, ⟨rfl, pre, x, rfl, HE.out, hne, q, ?_, ?_, ?_⟩, ?_⟩
      · exact ((keepsFrom_below b5).trans ((KeepsOthers.setCell _ _ _).from _)).trans ((KeepsOthers.setCell _ _ _).from _)
      · exact OwnPage.mono (OwnPage.store (OwnPage.store (base := W.heap.size) ⟨q, rfl, hq1, hq2, hq3⟩ (p := ⟨w.heap.size + 1 + 1, 0, none⟩) (by simp; omega) _) (p := ⟨w.heap.size + 1 + 1 + 1, 0, none⟩) (by simp; omega) _) (by omega)
      · refine (World.cell?_of_block (Below.heap_setCell _ _ _ _ (by simp))).trans (World.cell?_setCell_same' _ _ _ (by rw [z2]; rfl))
      · exact World.cell?_setCell_same' _ _ _ (by rw [(World.cell?_of_block (w := w5) (Below.heap_setCell _ _ _ _ (by simp))).trans z3]; rfl)
      · exact ((below_trans hBw b5).setCell (p := ⟨w.heap.size + 1 + 1, 0, none⟩) (by simp; omega) _).setCell (p := ⟨w.heap.size + 1 + 1 + 1, 0, none⟩) (by simp; omega) _
    · have hq := ne_beq he
      gi_wp2
      exact ⟨KeepsFrom.refl _ _, Below.refl _ _, fun i hi => (List.mem_append.1 hi).elim (hne i) (fun e => by simp at e; subst e; exact he), hB⟩
  case done =>
    rintro D ys W hD rfl ⟨hne, hB⟩ hK
    have hmiss := look_miss (d := d) (k := k) fun j hj => hne ⟨j, hj⟩ (mem_down.2 (Nat.zero_le _))
    have HM := Lib.hid hmiss
    clear hmiss hne
    obtain ⟨kn, hkn⟩ : ∃ kn : Nat, k = kn := ⟨k.toNat, by omega⟩
    subst hkn
    have hBw := below_trans bW hB
    have x0' := block_keep x0 (below_trans bX hB)
    have x2' := block_keep x2 (below_trans bX hB)
    have x3' := block_keep x3 (below_trans bX hB)
    have z1 : W.cell? ⟨w.heap.size + 1, 0, none⟩ = some (.int .i64 kn) := cell_at (block_keep x1 (below_trans bX hB)) rfl
    obtain ⟨y0, y1, y2, -, -, -⟩ := Box3.of x0'
    have fin : ∀ (w5 : World) (q : Nat) (l : List UInt8), OwnPage w5 W.heap.size (pageV q) l → Below W.heap.size W w5 → look d kn = l → w5.cell? ⟨w.heap.size + 1 + 1, 0, none⟩ = some (.slice none 0 0) → w5.cell? ⟨w.heap.size + 1 + 1 + 1, 0, none⟩ = some (.int .i64 0) →
        ∃ (w7 : World), w7 = (w5.setCell ⟨w.heap.size + 1 + 1, 0, none⟩ (pageV q)).setCell ⟨w.heap.size + 1 + 1 + 1, 0, none⟩ (.int .i64 0) ∧ w7.heap[D]? = some (.deferred (some [])) ∧ (w7.putObj D (.deferred none)).cell? ⟨w.heap.size + 1 + 1, 0, none⟩ = some (pageV q) ∧ (w7.putObj D (.deferred none)).cell? ⟨w.heap.size + 1 + 1 + 1, 0, none⟩ = some (.int .i64 0) ∧
          IsBytes (w7.putObj D (.deferred none)) (pageV q) (look d kn) ∧ Below w.heap.size w (w7.putObj D (.deferred none)) := by
      intro w5 q l hO b5 hl z2 z3
      refine ⟨_, rfl, ?_⟩
      have hs5 := b5.size
      have hsB := hB.size
      have hK5 := (KeepsOthers.setCell (w5.setCell ⟨w.heap.size + 1 + 1, 0, none⟩ (pageV q)) ⟨w.heap.size + 1 + 1 + 1, 0, none⟩ (.int .i64 0)).same D _ ((KeepsOthers.setCell w5 ⟨w.heap.size + 1 + 1, 0, none⟩ (pageV q)).same D _ (block_keep hK b5) rfl) rfl
      have c2 : ((w5.setCell ⟨w.heap.size + 1 + 1, 0, none⟩ (pageV q)).setCell ⟨w.heap.size + 1 + 1 + 1, 0, none⟩ (.int .i64 0)).cell? ⟨w.heap.size + 1 + 1, 0, none⟩ = some (pageV q) := (World.cell?_of_block (Below.heap_setCell _ _ _ _ (by simp))).trans (World.cell?_setCell_same' _ _ _ (by rw [z2]; rfl))
      have c3 : ((w5.setCell ⟨w.heap.size + 1 + 1, 0, none⟩ (pageV q)).setCell ⟨w.heap.size + 1 + 1 + 1, 0, none⟩ (.int .i64 0)).cell? ⟨w.heap.size + 1 + 1 + 1, 0, none⟩ = some (.int .i64 0) := World.cell?_setCell_same' _ _ _ (by rw [(World.cell?_of_block (w := w5) (Below.heap_setCell _ _ _ _ (by simp))).trans z3]; rfl)
      have hr : ∀ r, some D = some r → ∃ o : Obj, ((w5.setCell ⟨w.heap.size + 1 + 1, 0, none⟩ (pageV q)).setCell ⟨w.heap.size + 1 + 1 + 1, 0, none⟩ (.int .i64 0)).heap[r]? = some o ∧ o.isCells = false := fun r e => by cases e; exact ⟨_, hK5, rfl⟩
      have hg := grownBy_putObj' ((w5.setCell ⟨w.heap.size + 1 + 1, 0, none⟩ (pageV q)).setCell ⟨w.heap.size + 1 + 1 + 1, 0, none⟩ (.int .i64 0)) D (.deferred none)
      refine ⟨hK5, cell_kept c2 hg hr, cell_kept c3 hg hr, ?_, ?_⟩
      · rw [hl]
        exact ((OwnPage.store (OwnPage.store hO (p := ⟨w.heap.size + 1 + 1, 0, none⟩) (by simp; omega) _) (p := ⟨w.heap.size + 1 + 1 + 1, 0, none⟩) (by simp; omega) _).kept hg hr).bytes
      · exact (((below_trans hBw b5).setCell (p := ⟨w.heap.size + 1 + 1, 0, none⟩) (by simp; omega) _).setCell (p := ⟨w.heap.size + 1 + 1 + 1, 0, none⟩) (by simp; omega) _).trans (belowK_b (w := w) (Nat.le_refl _) _ D _ _ (by have := bW.size; omega) hK5 rfl rfl)
    by_cases hkp : kn < d.pages.length
    · have HL := Lib.hid (show look d kn = full d.pages[kn] by rw [HM.out, if_pos (by omega), List.getD_eq_getElem?_getD, Int.toNat_natCast, List.getElem?_eq_getElem hkp]; rfl)
      obtain ⟨b, off, qa, qc, rfl, hc, hB2⟩ := hp.at_ (List.getElem?_eq_getElem hkp)
      generalize d.pages[kn] = l at *
      have hc' := cell_keep hBw hc
      have HI1 : (0 : Int) ≤ (kn : Int) := by omega
      have HI2 : (kn : Int) < (d.pages.length : Int) := by omega
      have hdd : decide ((kn : Int) < (d.pages.length : Int)) = true := decide_eq_true HI2
      clear hc
      gi_wp2_with fail
      refine ⟨trivial, ?_⟩
      refine (callsIn_wide.2 (full_any _ l _ (hB2.keep hBw))).mono ?_
      rintro e w5 ⟨u, rfl, hu, b5⟩
      obtain ⟨q, rfl, hq1, hq2, hq3⟩ := hu
      have z2 : w5.cell? ⟨w.heap.size + 1 + 1, 0, none⟩ = some (.slice none 0 0) := cell_at (block_keep x2' b5) rfl
      have z3 : w5.cell? ⟨w.heap.size + 1 + 1 + 1, 0, none⟩ = some (.int .i64 0) := cell_at (block_keep x3' b5) rfl
      have f2 : w5.frozen? ⟨w.heap.size + 1 + 1, 0, none⟩ = false := free_at (block_keep x2' b5)
      have f3 : w5.frozen? ⟨w.heap.size + 1 + 1 + 1, 0, none⟩ = false := free_at (block_keep x3' b5)
      have HFIN := Lib.hid (fin w5 q (full l) ⟨q, rfl, hq1, hq2, hq3⟩ b5 HL.out z2 z3)
      clear fin
      gi_wp2
      obtain ⟨w7, hw7, k1, k2, k3, k4, k5⟩ := HFIN.out
      unfold pageV at hw7 k2 k4
      rw [← hw7]
      refine ⟨by simp, .inl ⟨_, _, rfl, run_takeDeferred k1, ?_⟩⟩
      refine ⟨.tuple #[.slice (some ⟨q, 0, none⟩) 64 64, .int .i64 0], ?_, _, by rw [H.out], by rw [H.out]; exact k4, k5⟩
      simp [results, Try.f24, go_sem, k2, k3]
    · have HL := Lib.hid (show look d kn = full [] by rw [HM.out, if_neg (by omega)])
      have hdd : decide ((kn : Int) < (d.pages.length : Int)) = false := decide_eq_false (by omega)
      gi_wp2_with fail
      refine ⟨trivial, ?_⟩
      refine (callsIn_wide.2 (full_any _ [] _ (IsBytes.nil _))).mono ?_
      rintro e w5 ⟨u, rfl, hu, b5⟩
      obtain ⟨q, rfl, hq1, hq2, hq3⟩ := hu
      have z2 : w5.cell? ⟨w.heap.size + 1 + 1, 0, none⟩ = some (.slice none 0 0) := cell_at (block_keep x2' b5) rfl
      have z3 : w5.cell? ⟨w.heap.size + 1 + 1 + 1, 0, none⟩ = some (.int .i64 0) := cell_at (block_keep x3' b5) rfl
      have f2 : w5.frozen? ⟨w.heap.size + 1 + 1, 0, none⟩ = false := free_at (block_keep x2' b5)
      have f3 : w5.frozen? ⟨w.heap.size + 1 + 1 + 1, 0, none⟩ = false := free_at (block_keep x3' b5)
      have HFIN := Lib.hid (fin w5 q (full []) ⟨q, rfl, hq1, hq2, hq3⟩ b5 HL.out z2 z3)
      clear fin
      gi_wp2
      obtain ⟨w7, hw7, k1, k2, k3, k4, k5⟩ := HFIN.out
      unfold pageV at hw7 k2 k4
      rw [← hw7]
      refine ⟨by simp, .inl ⟨_, _, rfl, run_takeDeferred k1, ?_⟩⟩
      refine ⟨.tuple #[.slice (some ⟨q, 0, none⟩) 64 64, .int .i64 0], ?_, _, by rw [H.out], by rw [H.out]; exact k4, k5⟩
      simp [results, Try.f24, go_sem, k2, k3]
  case stop =>
    rintro D c pre W hD ⟨j, hj, rfl⟩ ⟨⟨rfl, ini, i, e1, e2, e3, q, e4, e5, e6⟩, hB⟩ hK
    have hij : ini = down d.writes.length (j + 1) ∧ i = ⟨j, hj⟩ := by
      rw [down_succ hj] at e1
      obtain ⟨h1, h2⟩ := List.append_inj' e1 rfl
      exact ⟨h1.symm, by simpa using h2.symm⟩
    obtain ⟨rfl, rfl⟩ := hij
    have HL := Lib.hid (look_hit (d := d) (k := k) hj e2 fun m hm hjm => e3 ⟨m, hm⟩ (mem_down.2 hjm))
    have hr : ∀ r, some D = some r → ∃ o : Obj, W.heap[r]? = some o ∧ o.isCells = false := fun r e => by cases e; exact ⟨_, hK, rfl⟩
    have hg : W.grownBy (W.putObj D (.deferred none)) (some D) := grownBy_putObj' W D (.deferred none)
    have k2 := cell_kept e5 hg hr
    have k3 := cell_kept e6 hg hr
    have k4 := (e4.kept hg hr).bytes
    have k5 : Below w.heap.size w (W.putObj D (.deferred none)) := hB.trans (belowK_b (w := w) (Nat.le_refl _) W D _ _ (by have := bW.size; omega) hK rfl rfl)
    clear e1 e2 e3
    gi_wp2
    unfold pageV at k2 k4
    refine ⟨by simp, .inl ⟨_, _, rfl, run_takeDeferred hK, ?_⟩⟩
    refine ⟨.tuple #[.slice (some ⟨q, 0, none⟩) 64 64, .int .i64 0], ?_, _, by rw [H.out], by rw [H.out, HL.out]; exact k4, k5⟩
    simp [results, Try.f24, go_sem, k2, k3]
theorem Read_any (v : Value) (d : Dk) (k : Int) (w : World) (h : IsDisk w v d) : Calls Try.prog 24 #[v, .int .i64 k] w (BytesErr (readD d k) w) := by
  by_cases hf : failure d k = 0
  · exact callsIn_wide.1 (Read_in v d k w h hf)
  · exact Read_err v d k w h hf
end Go.Proofs.Ytcembocnkndlhaa
