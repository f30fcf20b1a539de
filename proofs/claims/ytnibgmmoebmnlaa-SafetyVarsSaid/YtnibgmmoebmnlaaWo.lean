/- The walks of Check, in the given program and in the reference. -/
import Derived.Test.YtnibgmmoebmnlaaWn
namespace Go.Proofs.Ytnibgmmoebmnlaa
open Go.RowKit
def chk (rs : List Rl) : List (Int × Int) := ((rs.filter fun r => !safeP r).take 20).map fun r => (80, r.at_)
theorem chk_le (rs : List Rl) : (chk rs).length ≤ 20 := by simp [chk]; omega
theorem chk_safe (rs : List Rl) (r : Rl) (h : safeP r = true) : chk (rs ++ [r]) = chk rs := by simp [chk, List.filter_append, h]
theorem chk_full (rs ts : List Rl) (h : ¬(chk rs).length < 20) : chk (rs ++ ts) = chk rs := by
  have : 20 ≤ (rs.filter fun r => !safeP r).length := by
    simp only [chk, List.length_map, List.length_take] at h; omega
  simp only [chk, List.filter_append]
  rw [List.take_append_of_le_length this]
theorem chk_more (rs : List Rl) (r : Rl) (h : safeP r = false) (hl : (chk rs).length < 20) : chk (rs ++ [r]) = chk rs ++ [(80, r.at_)] := by
  have : (rs.filter fun r => !safeP r).length < 20 := by
    simp only [chk, List.length_map, List.length_take] at hl; omega
  simp only [chk, List.filter_append]
  have e : List.filter (fun r => !safeP r) [r] = [r] := by simp [h]
  rw [e, List.take_of_length_le (by simp; omega), List.take_of_length_le (by omega)]
  simp
structure Pg where
  lats : Value
  funs : Value
  preds : Value
  rules : Value
  rls : List Rl
def progV (p : Pg) : Value := .agg #[p.lats, p.funs, p.preds, p.rules]
theorem info76' : (Try.prog.info? 76).map (fun i => (i.zero, i.size, i.bytes)) = some (some (.agg #[.int .i64 0, .int .i64 0]), 2, 16) := by kernel_rfl
def OwnDiags (w : World) (base : Nat) (v : Value) (l : List (Int × Int)) : Prop := w.ownsRow base 76 2 v l.length (l.flatMap encD)
theorem OwnDiags.is {w : World} {base : Nat} {v : Value} {l : List (Int × Int)} (h : OwnDiags w base v l) (hm : l.length ≤ 9223372036854775807) : IsDiags w v l :=
  IsRows.of_owns h (fun _ _ => rfl) hm
theorem OwnDiags.len {w : World} {base : Nat} {v : Value} {l : List (Int × Int)} (h : OwnDiags w base v l) : ∃ a c, v = .slice a l.length c := by
  rcases h.2 with ⟨rfl, h0⟩ | ⟨g, cap, cur, hv, _⟩
  · exact ⟨none, 0, by rw [h0]⟩
  · exact ⟨_, _, hv⟩
theorem OwnDiags.keep {w w' : World} {base : Nat} {v : Value} {l : List (Int × Int)} (h : OwnDiags w base v l) (hb : Below w.heap.size w w') : OwnDiags w' base v l :=
  World.ownsRow.kept h (grown_none hb none) (by cases v.ownBlock <;> simp)
theorem cell_diag (w : World) (x y : Int) : ∀ j u, ([.int .i64 x, .int .i64 y] : List Value)[j]? = some u → (w.alloc (.cells #[.int .i64 x, .int .i64 y] 76)).cell? ((⟨w.heap.size, 0, none⟩ : Addr).add j) = some u :=
  World.news_of_block (heap_alloc_new w _)
set_option maxHeartbeats 4000000 in
set_option maxRecDepth 100000 in
theorem Check_any (p : Pg) (w : World) (h : IsRules w p.rules p.rls) (hf : ∀ r ∈ p.rls, Fits r) :
    Calls Try.prog 22 #[progV p] w fun e w' => (∃ v, e = .returned v ∧ IsDiags w' v (chk p.rls)) ∧ Below w.heap.size w w' := by
  obtain ⟨i0, hi, hz0, hz1, hz2⟩ := info_parts info76'
  obtain ⟨pl, pf, pp, pr, rs⟩ := p
  obtain ⟨⟨ap, cp, hrv, hrows, hmr⟩, hok⟩ := h
  dsimp only at *
  subst hrv
  unfold progV
  obtain ⟨wb, hwb⟩ : ∃ x : World, x = w.alloc (.cells #[pl, pf, pp, .slice ap rs.length cp] 35) := ⟨_, rfl⟩
  have b0 : Below w.heap.size w wb := by subst hwb; exact (Below.refl _ _).alloc (Nat.le_refl _) _
  have hbs : wb.heap.size = w.heap.size + 1 := by subst hwb; simp
  go_enter Try.func22, Try.ntmps22
  go_wp2
  rw [← hwb]
  clear hwb
  go_loopw [3, 9] (fun v3 iv wr => ∃ k : Nat, k ≤ rs.length ∧ iv = .int .i64 k ∧ ∃ D, Hid (D = chk (rs.take k)) ∧ D.length ≤ 20 ∧ OwnDiags wr wb.heap.size v3 D ∧ Below wb.heap.size wb wr) (fun _ iv _ => rs.length - (intOf iv).toNat)
  case atStart => exact ⟨0, by simp, rfl, [], Lib.hid rfl, by simp, World.ownsRow_nil _ _ _ _, Below.refl _ _⟩
  case round =>
    obtain ⟨k, hk, rfl, D, HD, hDl, hown, hb⟩ := hrel
    obtain ⟨ao, co, rfl⟩ := hown.len
    have hbw := below_trans b0 hb
    have hbs' := hb.size
    have hvo := own_from hown
    by_cases hlt : k < rs.length
    · obtain ⟨b', off, rfl, c0, c1, c2, c3, c4, c5, c6, c7, c8⟩ := rules_at (hrows.keep (keeps_below hbw)) (List.getElem?_eq_getElem hlt)
      have hr := hok rs[k] (List.getElem_mem hlt)
      have hfr := hf rs[k] (List.getElem_mem hlt)
      have HT := Lib.hid (List.take_succ_eq_append_getElem hlt)
      generalize rs[k] = r at *
      obtain ⟨⟨aa, ca, hra, -, -⟩, ⟨ab, cb, hrb, -, -⟩, -⟩ := id hr
      obtain ⟨rn, rp, ra, rt, rk, ren, rev, rei, rb, rl, rat⟩ := r
      dsimp only at *
      subst hra hrb
      have b1 : Below wb.heap.size wb (wr.alloc (.cells #[.string rn.1, .int .i64 rp, .slice aa rt.length ca, .int .i64 rk, .string ren.1, .string rev.1, .int .i64 rei, .slice ab rl.length cb, .int .i64 rat] 27)) := hb.alloc hbs' _
      have bb1 : Below wr.heap.size wr (wr.alloc (.cells #[.string rn.1, .int .i64 rp, .slice aa rt.length ca, .int .i64 rk, .string ren.1, .string rev.1, .int .i64 rei, .slice ab rl.length cb, .int .i64 rat] 27)) := (Below.refl _ _).alloc (Nat.le_refl _) _
      by_cases h20 : D.length < 20
      · go_wp2_with fail
        refine (safe_any ⟨rn, rp, .slice aa rt.length ca, rt, rk, ren, rev, rei, .slice ab rl.length cb, rl, rat⟩ _ (hr.keep (keeps_below (below_trans hbw bb1))) hfr).mono ?_
        rintro e w4 ⟨rfl, b4⟩
        have x8 := boxed (j := 8) rfl b4
        clear c0 c1 c2 c3 c4 c5 c6 c7 c8
        have b4s := b4.size
        simp at b4s
        have hb4 := b1.trans (b4.mono (by simp; omega))
        have hown4 := hown.keep (below_trans bb1 b4)
        cases hs : safeP ⟨rn, rp, .slice aa rt.length ca, rt, rk, ren, rev, rei, .slice ab rl.length cb, rl, rat⟩
        · have HD' := Lib.hid (show D ++ [(80, rat)] = chk (rs.take (k + 1)) by rw [HT.out, chk_more _ _ hs (by rw [← HD.out]; exact h20), HD.out])
          have hn1 : D.length + 1 ≤ maxLen := by unfold maxLen; omega
          have hn2 : (D.length + 1) * 16 ≤ 140737488355328 := by omega
          have ho7 := World.ownsRow.alloc hown4 (.cells #[.int .i64 80, .int .i64 rat] 76)
          have hw4 : wb.heap.size ≤ w4.heap.size := by omega
          go_wp2_with (at_builtin; refine wpList_append_own _ rfl _ _ 48 rfl wb.heap.size 76 i0 (.agg #[.int .i64 0, .int .i64 0]) 2 16 Try.underlying48 hi hz0 hz1 hz2 rfl (by decide) _ _ _ rfl ho7 ⟨w4.heap.size, 0, none⟩ 1 1 [.int .i64 80, .int .i64 rat] rfl rfl (cell_diag _ _ _) (by simp [Value.oneCell']) hn1 hn2 (by simp; omega) ?_; intro v' w1 hown' hgrow _)
          have hb6 := (hb4.alloc hw4 (.cells #[.int .i64 80, .int .i64 rat] 76)).grown hgrow (by simp; omega) (fun i hi => hvo i hi)
          go_roundw
          case rel => exact ⟨k + 1, by omega, by go_num, D ++ [(80, rat)], HD', by simp; omega, by unfold OwnDiags; simpa [List.flatMap_append, encD] using hown', hb6⟩
          case measure => simp [intOf]; omega
        · have HD' := Lib.hid (show D = chk (rs.take (k + 1)) by rw [HT.out, chk_safe _ _ hs, HD.out])
          go_wp2
          go_roundw
          case rel => exact ⟨k + 1, by omega, by go_num, D, HD', hDl, hown4, hb4⟩
          case measure => simp [intOf]; omega
      · have HD' := Lib.hid (show D = chk (rs.take (k + 1)) by rw [HT.out, chk_full _ _ (by rw [← HD.out]; exact h20), HD.out])
        go_wp2
        go_roundw
        case rel => exact ⟨k + 1, by omega, by go_num, D, HD', hDl, hown.keep bb1, b1⟩
        case measure => simp [intOf]; omega
    · have he : k = rs.length := by omega
      have HD' := Lib.hid (show D = chk rs by rw [HD.out, he, List.take_length])
      clear he
      go_wp2
      go_ret
      exact ⟨⟨_, rfl, by rw [← HD'.out]; exact hown.is (by omega)⟩, hbw⟩
set_option maxHeartbeats 4000000 in
set_option maxRecDepth 100000 in
theorem rCheck_any (p : Pg) (w : World) (h : IsRules w p.rules p.rls) (hf : ∀ r ∈ p.rls, Fits r) :
    Calls Try.prog 23 #[progV p] w fun e w' => (∃ v, e = .returned v ∧ IsDiags w' v (chk p.rls)) ∧ Below w.heap.size w w' := by
  obtain ⟨i0, hi, hz0, hz1, hz2⟩ := info_parts info76'
  obtain ⟨pl, pf, pp, pr, rs⟩ := p
  obtain ⟨⟨ap, cp, hrv, hrows, hmr⟩, hok⟩ := h
  dsimp only at *
  subst hrv
  unfold progV
  obtain ⟨wb, hwb⟩ : ∃ x : World, x = w.alloc (.cells #[pl, pf, pp, .slice ap rs.length cp] 35) := ⟨_, rfl⟩
  have b0 : Below w.heap.size w wb := by subst hwb; exact (Below.refl _ _).alloc (Nat.le_refl _) _
  have hbs : wb.heap.size = w.heap.size + 1 := by subst hwb; simp
  have hx3 : ∀ w', Below wb.heap.size wb w' → w'.cell? ⟨w.heap.size, 3, none⟩ = some (.slice ap rs.length cp) := by subst hwb; exact fun w' hb => boxed (j := 3) rfl hb
  go_enter Try.func23, Try.ntmps23
  go_wp2
  rw [← hwb]
  clear hwb
  go_loopw [3, 4] (fun v3 iv wr => ∃ k : Nat, k ≤ rs.length ∧ iv = .int .i64 k ∧ ∃ D, Hid (D = chk (rs.take k)) ∧ D.length ≤ 20 ∧ OwnDiags wr wb.heap.size v3 D ∧ Below wb.heap.size wb wr) (fun _ iv _ => rs.length - (intOf iv).toNat)
  case atStart => exact ⟨0, by simp, rfl, [], Lib.hid rfl, by simp, World.ownsRow_nil _ _ _ _, Below.refl _ _⟩
  case round =>
    obtain ⟨k, hk, rfl, D, HD, hDl, hown, hb⟩ := hrel
    obtain ⟨ao, co, rfl⟩ := hown.len
    have hbw := below_trans b0 hb
    have hbs' := hb.size
    have hvo := own_from hown
    have y3 := hx3 _ hb
    by_cases hlt : k < rs.length
    · by_cases h20 : D.length < 20
      · obtain ⟨b', off, rfl, c0, c1, c2, c3, c4, c5, c6, c7, c8⟩ := rules_at (hrows.keep (keeps_below hbw)) (List.getElem?_eq_getElem hlt)
        have hr := hok rs[k] (List.getElem_mem hlt)
        have hfr := hf rs[k] (List.getElem_mem hlt)
        have HT := Lib.hid (List.take_succ_eq_append_getElem hlt)
        generalize rs[k] = r at *
        go_wp2_with fail
        refine (rSafe_any r _ (hr.keep (keeps_below hbw)) hfr).mono ?_
        rintro e w4 ⟨rfl, b4⟩
        have d8 := cell_keep b4 c8
        clear c0 c1 c2 c3 c4 c5 c6 c7 c8
        have b4s := b4.size
        have hb4 := hb.trans (b4.mono hbs')
        have hown4 := hown.keep b4
        have z3 := hx3 _ hb4
        cases hs : safeP r
        · have HD' := Lib.hid (show D ++ [(80, r.at_)] = chk (rs.take (k + 1)) by rw [HT.out, chk_more _ _ hs (by rw [← HD.out]; exact h20), HD.out])
          have hn1 : D.length + 1 ≤ maxLen := by unfold maxLen; omega
          have hn2 : (D.length + 1) * 16 ≤ 140737488355328 := by omega
          have ho7 := World.ownsRow.alloc hown4 (.cells #[.int .i64 80, .int .i64 r.at_] 76)
          have hw4 : wb.heap.size ≤ w4.heap.size := by omega
          go_wp2_with (at_builtin; refine wpList_append_own _ rfl _ _ 48 rfl wb.heap.size 76 i0 (.agg #[.int .i64 0, .int .i64 0]) 2 16 Try.underlying48 hi hz0 hz1 hz2 rfl (by decide) _ _ _ rfl ho7 ⟨w4.heap.size, 0, none⟩ 1 1 [.int .i64 80, .int .i64 r.at_] rfl rfl (cell_diag _ _ _) (by simp [Value.oneCell']) hn1 hn2 (by simp; omega) ?_; intro v' w1 hown' hgrow _)
          have hb6 := (hb4.alloc hw4 (.cells #[.int .i64 80, .int .i64 r.at_] 76)).grown hgrow (by simp; omega) (fun i hi => hvo i hi)
          go_roundw
          case rel => exact ⟨k + 1, by omega, by go_num, D ++ [(80, r.at_)], HD', by simp; omega, by unfold OwnDiags; simpa [List.flatMap_append, encD] using hown', hb6⟩
          case measure => simp [intOf]; omega
        · have HD' := Lib.hid (show D = chk (rs.take (k + 1)) by rw [HT.out, chk_safe _ _ hs, HD.out])
          go_wp2
          go_roundw
          case rel => exact ⟨k + 1, by omega, by go_num, D, HD', hDl, hown4, hb4⟩
          case measure => simp [intOf]; omega
      · have HD' := Lib.hid (show D = chk rs by
          have := chk_full (rs.take k) (rs.drop k) (by rw [← HD.out]; exact h20)
          rw [List.take_append_drop] at this
          rw [this, HD.out])
        go_wp2
        go_ret
        exact ⟨⟨_, rfl, by rw [← HD'.out]; exact hown.is (by omega)⟩, hbw⟩
    · have he : k = rs.length := by omega
      have HD' := Lib.hid (show D = chk rs by rw [HD.out, he, List.take_length])
      clear he
      go_wp2
      go_ret
      exact ⟨⟨_, rfl, by rw [← HD'.out]; exact hown.is (by omega)⟩, hbw⟩
end Go.Proofs.Ytnibgmmoebmnlaa
