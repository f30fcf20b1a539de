/- The walk of the given program's Vars, once more: the lists that it returns have room for what they hold. -/
import Derived.Test.YtnibgmmoebmnlaaApp
namespace Go.Proofs.Ytnibgmmoebmnlaa
open Go.RowKit
/-- A slice of names, no longer than its row. -/
def CapNames (w : World) (v : Value) (l : List Nm) : Prop := ∃ a c, v = .slice a l.length c ∧ RowsAt 1 encS w a l ∧ l.length ≤ c ∧ c ≤ maxLen
theorem CapNames.is {w : World} {v : Value} {l : List Nm} (h : CapNames w v l) : IsNames w v l := by
  obtain ⟨a, c, e, h, h1, h2⟩ := h
  exact ⟨a, c, e, h, by unfold maxLen at h2; omega⟩
theorem OwnNames.capped {w : World} {base : Nat} {v : Value} {l : List Nm} (h : OwnNames w base v l) (hm : l.length ≤ 9223372036854775807) : CapNames w v l := by
  obtain ⟨a, c, e, hr, -⟩ := h.is hm
  rcases h.2 with ⟨rfl, h0⟩ | ⟨g, cap, cur, hv, hb, hg, hnc, hcm, _⟩
  · exact ⟨none, 0, by rw [h0], by rw [List.eq_nil_of_length_eq_zero h0]; exact .inl rfl, by omega, by decide⟩
  · rw [hv] at e
    simp only [Value.slice.injEq] at e
    obtain ⟨rfl, -, rfl⟩ := e
    exact ⟨_, cap, hv, hr, hnc, hcm⟩
theorem CapNames.keep {w w' : World} {v : Value} {l : List Nm} (h : CapNames w v l) (hk : Keeps w w') : CapNames w' v l := by
  obtain ⟨a, c, e, h, m⟩ := h
  exact ⟨a, c, e, h.keep hk, m⟩
/-- The first k of them. -/
theorem names_take {w : World} {a : Option Addr} {l : List Nm} (h : RowsAt 1 encS w a l) {k : Nat} (hk : k ≤ l.length) (c : Nat) (hm : l.length ≤ 9223372036854775807) : IsNames w (.slice a k c) (l.take k) := by
  refine ⟨a, c, by rw [List.length_take, Nat.min_eq_left hk], ?_, by simp; omega⟩
  rcases h with rfl | ⟨b, off, ha, hc⟩
  · left; simp
  · refine .inr ⟨b, off, ha, fun i x hi j u hj => hc i x ?_ j u hj⟩
    have hlt : i < k := by have := (List.getElem?_eq_some_iff.1 hi).1; simp at this; omega
    rwa [List.getElem?_take_of_lt hlt] at hi
set_option maxHeartbeats 4000000 in
set_option maxRecDepth 100000 in
theorem VarsC_any (r : Rl) (w : World) (h : RuleOk w r) (hf : Fits r) :
    Calls Try.prog 13 #[ruleV r] w fun e w' => (∃ va vb, e = .returned (.tuple #[va, vb]) ∧ CapNames w' va (ordV r.lits) ∧ CapNames w' vb (latV r.lits)) ∧ Below w.heap.size w w' := by
  obtain ⟨i0, hi, hz0, hz1, hz2⟩ := info_parts info9'
  have hmm := @run_makeMap Try.prog
  obtain ⟨-, ⟨ab, cb, hb, hlits, hmb⟩, hok⟩ := h
  obtain ⟨hf1, hf2⟩ := hf
  obtain ⟨rn, rp, ra, rt, rk, ren, rev, rei, rb, rl, rat⟩ := r
  dsimp only at *
  subst hb
  unfold ruleV
  obtain ⟨wb, hwb⟩ : ∃ x : World, x = w.alloc (.cells #[.string rn.1, .int .i64 rp, ra, .int .i64 rk, .string ren.1, .string rev.1, .int .i64 rei, .slice ab rl.length cb, .int .i64 rat] 27) := ⟨_, rfl⟩
  have b0 : Below w.heap.size w wb := by subst hwb; exact (Below.refl _ _).alloc (Nat.le_refl _) _
  have hbs : wb.heap.size = w.heap.size + 1 := by subst hwb; simp
  go_enter Try.func13, Try.ntmps13
  go_wp2
  rw [← hwb]
  clear hwb
  have hset1 : SetAt ((wb.alloc (.map #[] 0)).alloc (.map #[] 0)) (w.heap.size + 1) 0 (ofList []) := by
    have := ((SetAt.made wb).alloc (.map #[] 0)).congr (t := ofList []) (fun x => by simp [ofList])
    rwa [hbs] at this
  have hset2 : SetAt ((wb.alloc (.map #[] 0)).alloc (.map #[] 0)) (w.heap.size + 1 + 1) 0 (ofList []) := by
    have := (SetAt.made (wb.alloc (.map #[] 0))).congr (t := ofList []) (fun x => by simp [ofList])
    rwa [show (wb.alloc (.map #[] 0)).heap.size = w.heap.size + 1 + 1 by simp; omega] at this
  have b1 : Below wb.heap.size wb ((wb.alloc (.map #[] 0)).alloc (.map #[] 0)) := ((Below.refl _ _).alloc (Nat.le_refl _) _).alloc (by simp) _
  have hbs1 : ((wb.alloc (.map #[] 0)).alloc (.map #[] 0)).heap.size = w.heap.size + 1 + 1 + 1 := by simp; omega
  obtain ⟨m2, hm2⟩ : ∃ x, w.heap.size + 1 + 1 = x := ⟨_, rfl⟩
  rw [hm2] at hset2 hbs1 ⊢
  obtain ⟨m1, hm1⟩ : ∃ x, w.heap.size + 1 = x := ⟨_, rfl⟩
  rw [hm1] at hset1 hbs hm2 ⊢
  have hm12 : m1 < m2 := by omega
  have hwm : w.heap.size < m1 := by omega
  have hwbm : wb.heap.size ≤ m1 := by omega
  generalize (wb.alloc (.map #[] 0)).alloc (.map #[] 0) = w1 at *
  clear hm1 hm2
  go_loopw [2, 3, 15] (fun v2 v3 iv wr => ∃ k : Nat, k ≤ rl.length ∧ iv = .int .i64 k ∧ ∃ A B : List Nm, A.length ≤ 6 * k ∧ B.length ≤ k ∧ Hid (A = ordV (rl.take k)) ∧ Hid (B = latV (rl.take k)) ∧ OwnNames wr (m2 + 1) v2 A ∧ OwnNames wr (m2 + 1) v3 B ∧
    (∀ j, v2.ownBlock = some j → v3.ownBlock ≠ some j) ∧ SetAt wr m1 (6 * k) (ofList A) ∧ SetAt wr m2 k (ofList B) ∧ Below wb.heap.size wb wr ∧ m2 + 1 ≤ wr.heap.size) (fun _ _ iv _ => rl.length - (intOf iv).toNat)
  case atStart => exact ⟨0, by simp, rfl, [], [], by simp, by simp, Lib.hid rfl, Lib.hid rfl, World.ownsRow_nil _ _ _ _, World.ownsRow_nil _ _ _ _, fun j hj => by simp [Value.ownBlock], hset1, hset2, b1, by omega⟩
  case round =>
    obtain ⟨k, hk, rfl, A, B, hAl, hBl, HA, HB, hA, hB, hdis, hs1, hs2, hb, hsz⟩ := hrel
    obtain ⟨wo, rfl⟩ : ∃ x : World, x = wr := ⟨_, rfl⟩
    obtain ⟨vB, rfl⟩ : ∃ x, x = u3 := ⟨_, rfl⟩
    by_cases hlt : k < rl.length
    · have hbw := below_trans b0 hb
      obtain ⟨b', off, rfl, c0, c1, c2, c3, c4, c5, c6, c7, c8⟩ := lits_at (hlits.keep (keeps_below hbw)) (List.getElem?_eq_getElem hlt)
      have hq := hok rl[k] (List.getElem_mem hlt)
      have hq6 := hf2 rl[k] (List.getElem_mem hlt)
      have HT := Lib.hid (List.take_succ_eq_append_getElem hlt)
      generalize rl[k] = q at *
      obtain ⟨pa, pc, hqa, hq', hqm⟩ := hq
      obtain ⟨qk, qn, qp, qa, qt, qb, qe, ql, qo, qat⟩ := q
      dsimp only at *
      subst hqa
      obtain ⟨wl, hwl⟩ : ∃ x : World, x = wo.alloc (.cells #[.int .i64 qk, .string qn.1, .int .i64 qp, .slice pa qt.length pc, .string qb.1, .string qe.1, .int .i64 ql, .int .i64 qo, .int .i64 qat] 58) := ⟨_, rfl⟩
      have bl : Below wb.heap.size wb wl := by subst hwl; exact hb.alloc hb.size _
      have hwls : wl.heap.size = wo.heap.size + 1 := by subst hwl; simp
      have y0 : wl.cell? ⟨wo.heap.size, 0, none⟩ = some (.int .i64 qk) := by subst hwl; exact boxed (j := 0) rfl (Below.refl _ _)
      have y4 : wl.cell? ⟨wo.heap.size, 4, none⟩ = some (.string qb.1) := by subst hwl; exact boxed (j := 4) rfl (Below.refl _ _)
      have hAl' := own_lt hA
      have hA1 : OwnNames wl (m2 + 1) u2 A := by subst hwl; exact hA.alloc _
      have hB1 : OwnNames wl (m2 + 1) vB B := by subst hwl; exact hB.alloc _
      have hs11 : SetAt wl m1 (6 * k) (ofList A) := by subst hwl; exact hs1.alloc _
      have hs21 : SetAt wl m2 k (ofList B) := by subst hwl; exact hs2.alloc _
      go_wp2
      rw [← hwl]
      clear hwl
      go_loopw [2, 22] (fun v2 iv wr2 => ∃ j : Nat, j ≤ qt.length ∧ iv = .int .i64 j ∧ ∃ A' : List Nm, A'.length ≤ 6 * k + j ∧ Hid (A' = bindN A (qt.take j)) ∧ OwnNames wr2 (m2 + 1) v2 A' ∧ OwnNames wr2 (m2 + 1) vB B ∧ (∀ j, v2.ownBlock = some j → vB.ownBlock ≠ some j) ∧ v2.ownBlock ≠ some wo.heap.size ∧
        SetAt wr2 m1 (6 * k + j) (ofList A') ∧ SetAt wr2 m2 k (ofList B) ∧ Below wb.heap.size wb wr2 ∧ wo.heap.size + 1 ≤ wr2.heap.size ∧
        wr2.cell? ⟨wo.heap.size, 0, none⟩ = some (.int .i64 qk) ∧ wr2.cell? ⟨wo.heap.size, 4, none⟩ = some (.string qb.1)) (fun _ iv _ => qt.length - (intOf iv).toNat)
      case atStart => exact ⟨0, by simp, rfl, A, by omega, Lib.hid (by simp [bindN]), hA1, hB1, hdis, fun e => by have := hAl' _ e; omega, hs11, hs21, bl, by omega, y0, y4⟩
      case round =>
        obtain ⟨j, hj, rfl, A', hAl1, HA1, hA2, hB2, hdis2, hlb, hs12, hs22, hb2, hsz2, z0, z4⟩ := hrel
        have hbw2 := below_trans b0 hb2
        have hvl2 := own_lt hA2
        have hvb2 := own_lt hB2
        have hvo2 := own_from hA2
        by_cases hjt : j < qt.length
        · obtain ⟨bt, ot, rfl, t0, t1, t2, t3⟩ := terms_at (hq'.keep (keeps_below hbw2)) (List.getElem?_eq_getElem hjt)
          have HT2 := Lib.hid (List.take_succ_eq_append_getElem hjt)
          generalize qt[j] = t at *
          have bt1 : Below wb.heap.size wb (wr.alloc (.cells #[.string t.var.1, .int .i64 t.ty, .int .i64 t.n, .string t.s.1] 69)) := hb2.alloc hb2.size _
          have hb2s := hb2.size
          go_wp2_with fail
          refine (lacks_any m1 _ _ t _ (hs12.alloc _)).mono ?_
          rintro e w4 ⟨rfl, b4⟩
          have b4s := b4.size
          simp at b4s
          have hb4 := bt1.trans (b4.mono (by simp; omega))
          have bw4 : Below wr.heap.size wr w4 := ((Below.refl _ _).alloc (Nat.le_refl _) _).trans (b4.mono (by simp))
          have hA4 := hA2.keep bw4
          have hB4 := hB2.keep bw4
          have hs14 := hs12.keep bw4
          have hs24 := hs22.keep bw4
          have z04 := cell_keep bw4 z0
          have z44 := cell_keep bw4 z4
          cases hlk : lacks (ofList A') t
          · have HL := Lib.hid (addN_has hlk)
            go_wp2
            go_roundw
            case rel => exact ⟨j + 1, by omega, by go_num, A', by omega, Lib.hid (by rw [HT2.out, bindN_snoc, ← HA1.out, HL.out]), hA4, hB4, hdis2, hlb, hs14.mono (by omega), hs24, hb4, by omega, z04, z44⟩
            case measure => simp [intOf]; omega
          · have HL := Lib.hid (addN_lacks hlk)
            have x0 := boxed (j := 0) rfl b4
            have hn1 : A'.length + 1 ≤ maxLen := by unfold maxLen; omega
            have hn2 : (A'.length + 1) * 16 ≤ 140737488355328 := by omega
            have ho7 := hA4.alloc (.cells #[.string t.var.1] 9)
            unfold OwnNames at ho7
            obtain ⟨D, hown, hD⟩ := hs14
            have bw5 : Below w4.heap.size w4 (w4.alloc (.cells #[.string t.var.1] 9)) := (Below.refl _ _).alloc (Nat.le_refl _) _
            have hx5 : ∀ w5, (w4.alloc (.cells #[.string t.var.1] 9)).grownBy w5 u2.ownBlock → w5.cell? ⟨wr.heap.size, 0, none⟩ = some (.string t.var.1) := fun w5 hg => hg.cell (cell_keep bw5 x0) (fun e => by have := hvl2 _ e.symm; simp at this)
            have hm5 : ∀ w5, (w4.alloc (.cells #[.string t.var.1] 9)).grownBy w5 u2.ownBlock → w5.ownsMap Try.prog 9 unitElem m1 (6 * k + j) D := fun w5 hg => (hown.alloc _).kept hg (fun e => by have := hvo2 _ e.symm; omega)
            have hkm : 6 * k + j < maxLen := by unfold maxLen; omega
            go_wp2_with (first
              | (at_builtin; refine wpList_append_lies _ rfl _ _ 28 rfl (m2 + 1) 9 i0 (.string ⟨#[]⟩) 1 16 Try.underlying28 hi hz0 hz1 hz2 rfl (by decide) _ _ _ rfl ho7 ⟨w4.heap.size, 0, none⟩ 1 1 [.string t.var.1] rfl rfl (cell_str _ _) (by simp [Value.oneCell']) (by decide) hn1 hn2 (by simp; omega) _ rfl ?_; intro gg cap w5 hown' hgrow hg1 hg2; have x5 := hx5 w5 hgrow; have hm5' := hm5 w5 hgrow; clear hx5 hm5 ho7)
              | (at_mapUpdate; refine wpList_mapUpdate_own _ rfl _ _ _ 78 rfl 9 80 keyed9 Try.underlying78 (unitElem (H := Unit)) m1 (6 * k + j) D rfl hm5' hkm _ _ _ rfl rfl (keyOf9 t.var) _ [] unitElem_mk ?_; intro w6 hown6 hgrow6)
              | go_in)
            have s5 := hgrow.size
            simp at s5
            have s6 := hgrow6.size
            have hgl : gg ≠ m1 ∧ gg ≠ m2 ∧ gg ≠ wo.heap.size ∧ vB.ownBlock ≠ some gg := by
              rcases hg1 with hg1 | hg1
              · refine ⟨?_, ?_, ?_, ?_⟩
                · have := hvo2 _ hg1; omega
                · have := hvo2 _ hg1; omega
                · intro e; exact hlb ((show u2.ownBlock = some gg from hg1).trans (by rw [e]))
                · exact hdis2 _ hg1
              · simp at hg1
                refine ⟨by omega, by omega, by omega, fun e => ?_⟩
                have := hvb2 _ e; omega
            have hA6 : OwnNames w6 (m2 + 1) (.slice (some ⟨gg, 0, none⟩) (A'.length + 1) cap) (A' ++ [t.var]) := by
              have := World.ownsRow.kept hown' hgrow6 (Or.inr (by simp [Value.ownBlock]; exact hgl.1))
              unfold OwnNames
              simpa [List.flatMap_append, encS] using this
            have hB6 : OwnNames w6 (m2 + 1) vB B := World.ownsRow.kept (World.ownsRow.kept (hB4.alloc _) hgrow (by
              rcases hvn : vB.ownBlock with _ | i
              · left; rfl
              · right; exact fun e => hdis2 i e.symm hvn)) hgrow6 (by
              rcases hvn : vB.ownBlock with _ | i
              · left; rfl
              · right; intro e; have := (own_from hB4) i hvn; simp at e; omega)
            have hs26 : SetAt w6 m2 k (ofList B) := ((hs24.alloc _).kept hgrow (fun e => by have := hvo2 _ e.symm; omega)).kept hgrow6 (by simp; omega)
            have hs16 : SetAt w6 m1 (6 * k + j + 1) (ofList (A' ++ [t.var])) := SetAt.congr ⟨_, hown6, has_put hm5'.isMap hD t.var _⟩ (fun y => by rw [addOne_snoc])
            have hb6 := ((hb4.alloc (by omega) (.cells #[.string t.var.1] 9)).grown hgrow (by simp; omega) (fun i hi => by have := hvo2 i hi; omega)).grown hgrow6 (by omega) (by simp; omega)
            have z06 := hgrow6.cell (hgrow.cell (cell_keep bw5 z04) (fun e => hlb e.symm)) (by simp; omega)
            have z46 := hgrow6.cell (hgrow.cell (cell_keep bw5 z44) (fun e => hlb e.symm)) (by simp; omega)
            go_roundw
            case rel => exact ⟨j + 1, by omega, by go_num, A' ++ [t.var], by simp; omega, Lib.hid (by rw [HT2.out, bindN_snoc, ← HA1.out, HL.out]), hA6, hB6, fun i hi => by simp [Value.ownBlock] at hi; rw [← hi]; exact hgl.2.2.2, by simp [Value.ownBlock]; exact hgl.2.2.1, hs16, hs26, hb6, by omega, z06, z46⟩
            case measure => simp [intOf]; omega
        · have he : j = qt.length := by omega
          have HA3 := Lib.hid (show A' = ordV (rl.take (k + 1)) by rw [HA1.out, he, List.take_length, HT.out, ordV_snoc, HA.out])
          have hs12' := hs12.mono (m := 6 * (k + 1)) (by omega)
          clear he
          by_cases hk1 : qk = 1
          · have HB1 := Lib.hid (show latV (rl.take (k + 1)) = addN B qb by rw [HT.out, latV_snoc, HB.out]; simp [hk1])
            subst hk1
            have hb2s := hb2.size
            go_wp2_with fail
            refine (lacks_any m2 _ _ ⟨qb, 0, 0, noName⟩ _ hs22).mono ?_
            rintro e w4 ⟨rfl, b4⟩
            have b4s := b4.size
            have hb4 := hb2.trans (b4.mono hb2s)
            have hA4 := hA2.keep b4
            have hB4 := hB2.keep b4
            have hs14 := hs12'.keep b4
            have hs24 := hs22.keep b4
            have x4 := cell_keep b4 z4
            cases hlk : lacks (ofList B) ⟨qb, 0, 0, noName⟩
            · have HL := Lib.hid (addN_has hlk)
              go_wp2
              go_roundw
              case rel => exact ⟨k + 1, by omega, by go_num, A', B, by omega, by omega, HA3, Lib.hid (by rw [HB1.out]; exact HL.out.symm), hA4, hB4, hdis2, hs14, hs24.mono (by omega), hb4, by omega⟩
              case measure => simp [intOf]; omega
            · have HL := Lib.hid (addN_lacks hlk)
              have hvo4 := own_from hB4
              have hva4 := own_lt hA4
              have hn1 : B.length + 1 ≤ maxLen := by unfold maxLen; omega
              have hn2 : (B.length + 1) * 16 ≤ 140737488355328 := by omega
              have ho7 := hB4.alloc (.cells #[.string qb.1] 9)
              unfold OwnNames at ho7
              obtain ⟨D, hown, hD⟩ := hs24
              have hvbl : vB.ownBlock ≠ some wo.heap.size := fun e => by have := own_lt hB _ e; omega
              have bw5 : Below w4.heap.size w4 (w4.alloc (.cells #[.string qb.1] 9)) := (Below.refl _ _).alloc (Nat.le_refl _) _
              have hx5 : ∀ w5, (w4.alloc (.cells #[.string qb.1] 9)).grownBy w5 vB.ownBlock → w5.cell? ⟨wo.heap.size, 4, none⟩ = some (.string qb.1) := fun w5 hg => hg.cell (cell_keep bw5 x4) (fun e => hvbl e.symm)
              have hm5 : ∀ w5, (w4.alloc (.cells #[.string qb.1] 9)).grownBy w5 vB.ownBlock → w5.ownsMap Try.prog 9 unitElem m2 k D := fun w5 hg => (hown.alloc _).kept hg (fun e => by have := hvo4 _ e.symm; omega)
              have hkm : k < maxLen := by unfold maxLen; omega
              go_wp2_with (first
                | (at_builtin; refine wpList_append_lies _ rfl _ _ 28 rfl (m2 + 1) 9 i0 (.string ⟨#[]⟩) 1 16 Try.underlying28 hi hz0 hz1 hz2 rfl (by decide) _ _ _ rfl ho7 ⟨w4.heap.size, 0, none⟩ 1 1 [.string qb.1] rfl rfl (cell_str _ _) (by simp [Value.oneCell']) (by decide) hn1 hn2 (by simp; omega) _ rfl ?_; intro gg cap w5 hown' hgrow hg1 hg2; have x5 := hx5 w5 hgrow; have hm5' := hm5 w5 hgrow; clear hx5 hm5 ho7)
                | (at_mapUpdate; refine wpList_mapUpdate_own _ rfl _ _ _ 78 rfl 9 80 keyed9 Try.underlying78 (unitElem (H := Unit)) m2 k D rfl hm5' hkm _ _ _ rfl rfl (keyOf9 qb) _ [] unitElem_mk ?_; intro w6 hown6 hgrow6)
                | go_in)
              have s5 := hgrow.size
              simp at s5
              have s6 := hgrow6.size
              have hgl : gg ≠ m1 ∧ gg ≠ m2 ∧ u2.ownBlock ≠ some gg := by
                rcases hg1 with hg1 | hg1
                · refine ⟨?_, ?_, fun e => hdis2 _ e hg1⟩
                  · have := hvo4 _ hg1; omega
                  · have := hvo4 _ hg1; omega
                · simp at hg1
                  refine ⟨by omega, by omega, fun e => ?_⟩
                  have := hva4 _ e; omega
              have hB6 : OwnNames w6 (m2 + 1) (.slice (some ⟨gg, 0, none⟩) (B.length + 1) cap) (B ++ [qb]) := by
                have := World.ownsRow.kept hown' hgrow6 (Or.inr (by simp [Value.ownBlock]; exact hgl.2.1))
                unfold OwnNames
                simpa [List.flatMap_append, encS] using this
              have hA6 := World.ownsRow.kept (World.ownsRow.kept (hA4.alloc (.cells #[.string qb.1] 9)) hgrow (by
                rcases hvn : u2.ownBlock with _ | i
                · left; rfl
                · right; exact fun e => hdis2 i hvn e.symm)) hgrow6 (by
                rcases hvn : u2.ownBlock with _ | i
                · left; rfl
                · right; intro e; have := (own_from hA4) i hvn; simp at e; omega)
              have hs16 := ((hs14.alloc (.cells #[.string qb.1] 9)).kept hgrow (fun e => by have := hvo4 _ e.symm; omega)).kept hgrow6 (by simp; omega)
              have hs26 : SetAt w6 m2 (k + 1) (ofList (B ++ [qb])) := SetAt.congr ⟨_, hown6, has_put hm5'.isMap hD qb _⟩ (fun y => by rw [addOne_snoc])
              have hb6 := ((hb4.alloc (by omega) (.cells #[.string qb.1] 9)).grown hgrow (by simp; omega) (fun i hi => by have := hvo4 i hi; omega)).grown hgrow6 (by omega) (by simp; omega)
              go_roundw
              case rel => exact ⟨k + 1, by omega, by go_num, A', B ++ [qb], by omega, by simp; omega, HA3, Lib.hid (by rw [HB1.out]; exact HL.out.symm), hA6, hB6, fun i hi e => by simp [Value.ownBlock] at e; exact hgl.2.2 (by rw [e]; exact hi), hs16, hs26, hb6, by omega⟩
              case measure => simp [intOf]; omega
          · have HB1 := Lib.hid (show B = latV (rl.take (k + 1)) by rw [HT.out, latV_snoc, HB.out]; simp [hk1])
            have qk1 := ne_beq hk1
            go_wp2
            go_roundw
            case rel => exact ⟨k + 1, by omega, by go_num, A', B, by omega, by omega, HA3, HB1, hA2, hB2, hdis2, hs12', hs22.mono (by omega), hb2, by omega⟩
            case measure => simp [intOf]; omega
    · have he : k = rl.length := by omega
      have HA' := Lib.hid (show A = ordV rl by rw [HA.out, he, List.take_length])
      have HB' := Lib.hid (show B = latV rl by rw [HB.out, he, List.take_length])
      clear he
      go_wp2
      go_ret2
      exact ⟨⟨_, _, rfl, by rw [← HA'.out]; exact hA.capped (by omega), by rw [← HB'.out]; exact hB.capped (by omega)⟩, below_trans b0 hb⟩
end Go.Proofs.Ytnibgmmoebmnlaa
