/- The walk of after. -/
import Derived.Test.YtnibgmmoebmnlaaWs
import Derived.Deep.RegionHeld3
import Derived.Deep.CutRange
namespace Go.Proofs.Ytnibgmmoebmnlaa
open Go.RowKit
def addRaw (l : List Nm) (ts : List Tm) : List Nm := l ++ (ts.map (·.var)).filter fun x => decide (x ≠ noName)
theorem addRaw_le (l : List Nm) (ts : List Tm) : (addRaw l ts).length ≤ l.length + ts.length := by
  have := List.length_filter_le (fun x : Nm => decide (x ≠ noName)) (ts.map (·.var))
  simp only [List.length_map] at this
  simp only [addRaw, List.length_append]; omega
theorem addRaw_snoc_blank (l : List Nm) (ts : List Tm) (t : Tm) (h : t.var = noName) : addRaw l (ts ++ [t]) = addRaw l ts := by simp [addRaw, List.filter_append, h]
theorem addRaw_snoc_full (l : List Nm) (ts : List Tm) (t : Tm) (h : t.var ≠ noName) : addRaw l (ts ++ [t]) = addRaw l ts ++ [t.var] := by simp [addRaw, List.filter_append, h]
theorem ofList_addRaw (l : List Nm) (ts : List Tm) : ofList (addRaw l ts) = addAll (ofList l) ts := by
  funext y
  unfold ofList addRaw addAll
  rw [← Bool.coe_iff_coe]
  simp only [decide_eq_true_eq, List.mem_append, List.mem_filter, List.mem_map, Bool.or_eq_true, Bool.and_eq_true, List.any_eq_true]
  constructor
  · rintro (h | ⟨⟨t, ht, rfl⟩, h2⟩)
    · exact .inl h
    · exact .inr ⟨h2, t, ht, rfl⟩
  · rintro (h | ⟨h2, t, ht, e⟩)
    · exact .inl h
    · exact .inr ⟨⟨t, ht, e⟩, h2⟩
theorem below_step' {a w w' : World} (h : Below w.heap.size w w') (k : Below a.heap.size a w) : Below a.heap.size a w' := below_trans k h
theorem below_alloc2 {a w : World} {o : Obj} (k : Below a.heap.size a w) : Below a.heap.size a (w.alloc o) := k.alloc k.size _
theorem below_drew2 {a w : World} (k : Below a.heap.size a w) : Below a.heap.size a w.drew := k.drew
set_option maxHeartbeats 4000000 in
set_option maxRecDepth 100000 in
theorem after_any (r : Rl) (v : Value) (l : List Nm) (vo : Value) (out : List Nat) (n : Nat) (w : World) (h : RuleOk w r) (hs : IsNames w v l) (ho : IsInts w vo (zs out)) (hf : Fits r) (hl : l.length ≤ 100) (hn : n ≤ out.length) (hn20 : n ≤ 20) (hout : ∀ i ∈ out, i < r.lits.length) :
    Calls Try.prog 26 #[ruleV r, v, vo, .int .i64 n] w fun e w' => ∃ v' nl, e = .returned v' ∧ nl.length ≤ l.length + 6 * n ∧ ofList nl = aft (ofList l) r.lits (out.take n) ∧ IsNames w' v' nl ∧ Below w.heap.size w w' := by
  obtain ⟨i0, hi, hz0, hz1, hz2⟩ := info_parts info9'
  obtain ⟨-, ⟨ab, cb, hb, hlits, hmb⟩, hok⟩ := h
  obtain ⟨hf1, hf2⟩ := hf
  obtain ⟨ao, co, rfl, hord, hom⟩ := ho
  rw [zs_length] at *
  obtain ⟨rn, rp, ra, rt, rk, ren, rev, rei, rb, rl, rat⟩ := r
  dsimp only at *
  subst hb
  unfold ruleV
  obtain ⟨wb, hwb⟩ : ∃ x : World, x = w.alloc (.cells #[.string rn.1, .int .i64 rp, ra, .int .i64 rk, .string ren.1, .string rev.1, .int .i64 rei, .slice ab rl.length cb, .int .i64 rat] 27) := ⟨_, rfl⟩
  have b0 : Below w.heap.size w wb := by subst hwb; exact (Below.refl _ _).alloc (Nat.le_refl _) _
  have hbs : wb.heap.size = w.heap.size + 1 := by subst hwb; simp
  have hx7 : ∀ w', Below wb.heap.size wb w' → w'.cell? ⟨w.heap.size, 7, none⟩ = some (.slice ab rl.length cb) := by subst hwb; exact fun w' hb => boxed (j := 7) rfl hb
  have HBS := Lib.hid hbs
  clear hbs
  go_enter Try.func26, Try.ntmps26
  go_upto_region 1 with fail
  rw [← hwb]
  clear hwb
  go_cut [9] from 13 to 15 (fun v9 wx => OwnNames wx wb.heap.size v9 l ∧ Below wb.heap.size wb wx)
  case first =>
    have hs' := hs.keep (keeps_below b0)
    obtain ⟨a, c, rfl, h, hm⟩ := hs'
    have h0 : (wb.alloc (.cells #[] 9)).ownsRow wb.heap.size 9 1 (.slice (some ⟨wb.heap.size, 0, none⟩) 0 0) 0 [] := World.ownsRow_lit wb #[] 0 (Nat.le_refl _) (by decide) rfl
    have b1 : Below wb.heap.size wb (wb.alloc (.cells #[] 9)) := (Below.refl _ _).alloc (Nat.le_refl _) _
    rcases h with h | ⟨b, off, rfl, hc⟩
    · subst h
      cases a
      · go_wp2
        go_meet
        case rel => exact ⟨h0, b1⟩
      · go_wp2
        go_meet
        case rel => exact ⟨h0, b1⟩
    · have hnn := names_cells fun i x hi j u hj => keeps_below b1 _ _ (hc i x hi j u hj)
      have hlen : (l.flatMap encS).length = l.length * 1 := by rw [flat_names]; simp
      have h1 := names_oneCell l
      obtain ⟨news, hnews⟩ : ∃ x, x = l.flatMap encS := ⟨_, rfl⟩
      rw [← hnews] at hnn hlen h1
      have HN := Lib.hid hnews.symm
      clear hnews
      go_wp2_with (at_builtin; refine wpList_append_own _ rfl _ _ 28 rfl wb.heap.size 9 i0 (.string ⟨#[]⟩) 1 16 Try.underlying28 hi hz0 hz1 hz2 rfl (by decide) _ _ _ rfl h0 ⟨b, off, none⟩ l.length c news rfl hlen hnn h1 (by unfold maxLen; omega) (by omega) (by simp) ?_; intro v' w1 hown' hgrow _)
      go_meet
      case rel =>
        refine ⟨?_, b1.grown hgrow (by simp) (own_from h0)⟩
        unfold OwnNames
        rw [HN.out]
        simpa using hown'
  case rest =>
    obtain ⟨hown0, hb0⟩ := hcut
    obtain ⟨w1, rfl⟩ : ∃ x : World, x = wc := ⟨_, rfl⟩
    go_wp2
    go_loopw [9, 10] (fun v9 iv wr => ∃ k : Nat, k ≤ n ∧ iv = .int .i64 k ∧ ∃ nl : List Nm, nl.length ≤ l.length + 6 * k ∧ Hid (ofList nl = aft (ofList l) rl (out.take k)) ∧ OwnNames wr wb.heap.size v9 nl ∧ Below wb.heap.size wb wr) (fun _ iv _ => n - (intOf iv).toNat)
    case atStart => exact ⟨0, by simp, rfl, l, by simp, Lib.hid (by simp [aft]), hown0, hb0⟩
    case round =>
      obtain ⟨k, hk, rfl, nl, hnl, HA, hown, hbl⟩ := hrel
      obtain ⟨wo, rfl⟩ : ∃ x : World, x = wr := ⟨_, rfl⟩
      have hbw := below_trans b0 hbl
      by_cases hlt : k < n
      · have hko : k < out.length := by omega
        have hzk : (zs out)[k]? = some ((out[k] : Nat) : Int) := by simp [zs, hko]
        obtain ⟨bo, oo, rfl, -⟩ := (hord.keep (keeps_below hbw)).one hzk rfl
        have hoc : ∀ w', Below w.heap.size w w' → w'.cell? ⟨bo, oo + k, none⟩ = some (.int .i64 ((out[k] : Nat) : Int)) := fun w' hb => by
          obtain ⟨b2, o2, e2, c2⟩ := (hord.keep (keeps_below hb)).one hzk rfl
          simp only [Option.some.injEq, Addr.mk.injEq] at e2
          obtain ⟨rfl, rfl, -⟩ := e2
          exact c2
        have hj := hout out[k] (List.getElem_mem hko)
        obtain ⟨b', off, rfl, -⟩ := lits_at (hlits.keep (keeps_below hbw)) (List.getElem?_eq_getElem hj)
        have HCS := fun w' (bb : Below w.heap.size w w') => lits_cells (hlits.keep (keeps_below bb)) (List.getElem?_eq_getElem hj)
        have hq := hok rl[out[k]] (List.getElem_mem hj)
        have hq6 := hf2 rl[out[k]] (List.getElem_mem hj)
        have HT := Lib.hid (show aft (ofList l) rl (out.take (k + 1)) = addAll (aft (ofList l) rl (out.take k)) rl[out[k]].targs by
          rw [List.take_succ_eq_append_getElem hko, aft_snoc _ _ _ _ hj])
        generalize rl[out[k]] = q at *
        generalize out[k] = j at *
        obtain ⟨pa, pc, hqa, hq', hqm⟩ := hq
        obtain ⟨qk, qn, qp, qa, qt, qb, qe, ql, qo, qat⟩ := q
        dsimp only at *
        subst hqa
        have HS : ∀ w', Below wb.heap.size wb w' → (fun w' => w'.cell? ⟨w.heap.size, 7, none⟩ = some (.slice (some ⟨b', off, none⟩) rl.length cb) ∧ w'.cell? ⟨bo, oo + k, none⟩ = some (.int .i64 (j : Int)) ∧
          w'.cell? ⟨b', off + j * 9, none⟩ = some (.int .i64 qk) ∧ w'.cell? ⟨b', off + j * 9 + 1, none⟩ = some (.string qn.1) ∧ w'.cell? ⟨b', off + j * 9 + 2, none⟩ = some (.int .i64 qp) ∧ w'.cell? ⟨b', off + j * 9 + 3, none⟩ = some (.slice pa qt.length pc)
          ∧ w'.cell? ⟨b', off + j * 9 + 4, none⟩ = some (.string qb.1) ∧ w'.cell? ⟨b', off + j * 9 + 5, none⟩ = some (.string qe.1) ∧ w'.cell? ⟨b', off + j * 9 + 6, none⟩ = some (.int .i64 ql) ∧ w'.cell? ⟨b', off + j * 9 + 7, none⟩ = some (.int .i64 qo) ∧ w'.cell? ⟨b', off + j * 9 + 8, none⟩ = some (.int .i64 qat)) w' := fun w' hb => ⟨hx7 w' hb, hoc w' (below_trans b0 hb), HCS w' (below_trans b0 hb)⟩
        dsimp only at HS
        have hj1 : (j : Int) < rl.length := by omega
        have hk1 : (k : Int) < out.length := by omega
        have hvlt := own_lt hown
        have hvfr := own_from hown
        go_upto_region 5 with fail
        go_cut [11] from 16 to 51 (fun v11 wx => ∃ g : Nat, v11 = .pointer (some ⟨g, 0, none⟩) ∧ wo.heap.size ≤ g ∧ g < wx.heap.size ∧ wx.cell? ⟨g, 3, none⟩ = some (.slice pa qt.length pc) ∧ Below wo.heap.size wo wx)
        case first =>
          go_region_held3 (fun w' => w'.cell? ⟨w.heap.size, 7, none⟩ = some (.slice (some ⟨b', off, none⟩) rl.length cb) ∧ w'.cell? ⟨bo, oo + k, none⟩ = some (.int .i64 (j : Int)) ∧
          w'.cell? ⟨b', off + j * 9, none⟩ = some (.int .i64 qk) ∧ w'.cell? ⟨b', off + j * 9 + 1, none⟩ = some (.string qn.1) ∧ w'.cell? ⟨b', off + j * 9 + 2, none⟩ = some (.int .i64 qp) ∧ w'.cell? ⟨b', off + j * 9 + 3, none⟩ = some (.slice pa qt.length pc)
          ∧ w'.cell? ⟨b', off + j * 9 + 4, none⟩ = some (.string qb.1) ∧ w'.cell? ⟨b', off + j * 9 + 5, none⟩ = some (.string qe.1) ∧ w'.cell? ⟨b', off + j * 9 + 6, none⟩ = some (.int .i64 ql) ∧ w'.cell? ⟨b', off + j * 9 + 7, none⟩ = some (.int .i64 qo) ∧ w'.cell? ⟨b', off + j * 9 + 8, none⟩ = some (.int .i64 qat))
            (first | exact HS _ (by with_reducible (repeat (first | assumption | exact Below.refl _ _ | refine below_alloc2 ?_ | refine below_drew2 ?_ | refine below_step' (by assumption) ?_))))
            (first | fail)
          all_goals
            go_wp2_with fail
            go_meet
            case rel =>
              refine ⟨_, rfl, by simp, by simp, ?_, (by with_reducible (repeat (first | assumption | exact Below.refl _ _ | refine below_alloc2 ?_ | refine below_drew2 ?_ | refine below_step' (by assumption) ?_)))⟩
              first | exact boxed (j := 3) rfl (Below.refl _ _).drew | exact boxed (j := 3) rfl (Below.refl _ _)
        case rest =>
          obtain ⟨g, rfl, hg, hgl, hc3, bx⟩ := hcut
          obtain ⟨w2, rfl⟩ : ∃ x : World, x = wc := ⟨_, rfl⟩
          have hb2 := hbl.trans (bx.mono hbl.size)
          have hown2 := hown.keep bx
          clear HS HCS hoc
          go_wp2
          go_loopw [9, 12] (fun v9 iv wr => ∃ i : Nat, i ≤ qt.length ∧ iv = .int .i64 i ∧ ∃ nl' : List Nm, nl'.length ≤ nl.length + i ∧ Hid (nl' = addRaw nl (qt.take i)) ∧ OwnNames wr wb.heap.size v9 nl' ∧ v9.ownBlock ≠ some g ∧ g < wr.heap.size ∧ wr.cell? ⟨g, 3, none⟩ = some (.slice pa qt.length pc) ∧ Below wb.heap.size wb wr) (fun _ iv _ => qt.length - (intOf iv).toNat)
          case atStart => exact ⟨0, by simp, rfl, nl, by simp, Lib.hid (by simp [addRaw]), hown2, fun e => by have := hvlt _ e; omega, hgl, hc3, hb2⟩
          case round =>
            obtain ⟨i, hil, rfl, nl', hnl', HN, hownr, hne, hgr, hcr, hbr⟩ := hrel
            have hbwr := below_trans b0 hbr
            by_cases hlt2 : i < qt.length
            · obtain ⟨bt, ot, rfl, t0, -⟩ := terms_at (hq'.keep (keeps_below hbwr)) (List.getElem?_eq_getElem hlt2)
              have HT2 := Lib.hid (List.take_succ_eq_append_getElem hlt2)
              generalize qt[i] = t at *
              by_cases he : t.var = noName
              · have hnb := nm_blank he
                have HN' := Lib.hid (show nl' = addRaw nl (qt.take (i + 1)) by rw [HT2.out, addRaw_snoc_blank _ _ _ he, HN.out])
                clear he
                go_wp2
                go_roundw
                case rel => exact ⟨i + 1, by omega, by go_num, nl', by omega, HN', hownr, hne, hgr, hcr, hbr⟩
                case measure => simp [intOf]; omega
              · obtain ⟨hnf, hnf'⟩ := nm_full he
                have HN' := Lib.hid (show nl' ++ [t.var] = addRaw nl (qt.take (i + 1)) by rw [HT2.out, addRaw_snoc_full _ _ _ he, HN.out])
                clear he
                have hn1 : nl'.length + 1 ≤ maxLen := by unfold maxLen; omega
                have hn2 : (nl'.length + 1) * 16 ≤ 140737488355328 := by omega
                have ho7 := hownr.alloc (.cells #[.string t.var.1] 9)
                unfold OwnNames at ho7
                have hbrs := hbr.size
                have hfr := own_from hownr
                go_wp2_with (at_builtin; refine wpList_append_lies _ rfl _ _ 28 rfl wb.heap.size 9 i0 (.string ⟨#[]⟩) 1 16 Try.underlying28 hi hz0 hz1 hz2 rfl (by decide) _ _ _ rfl ho7 ⟨wr.heap.size, 0, none⟩ 1 1 [.string t.var.1] rfl rfl (cell_str _ _) (by simp [Value.oneCell']) (by decide) hn1 hn2 (by simp; omega) _ rfl ?_; intro gg cap w5 hown' hgrow hg1 hg2)
                have hcr5 := hgrow.cell (cell_keep ((Below.refl _ _).alloc (Nat.le_refl _) (.cells #[.string t.var.1] 9)) hcr) (fun e => hne e.symm)
                have s5 := hgrow.size
                simp at s5
                go_roundw
                case rel => exact ⟨i + 1, by omega, by go_num, nl' ++ [t.var], by simp; omega, HN', by unfold OwnNames; simpa [List.flatMap_append, encS] using hown', by
                  rcases hg1 with hg1 | hg1
                  · intro e; exact hne (hg1.trans (by simpa [Value.ownBlock] using e))
                  · intro e
                    have : gg = g := by simpa [Value.ownBlock] using e
                    simp at hg1; omega, by omega, hcr5, (hbr.alloc hbrs _).grown hgrow (by simp; omega) hfr⟩
                case measure => simp [intOf]; omega
            · have he : i = qt.length := by omega
              have HN' := Lib.hid (show ofList nl' = aft (ofList l) rl (out.take (k + 1)) by rw [HT.out, HN.out, he, List.take_length, ofList_addRaw, HA.out])
              clear he
              go_wp2
              go_roundw
              case rel => exact ⟨k + 1, by omega, by go_num, nl', by omega, HN', hownr, hbr⟩
              case measure => simp [intOf]; omega
      · have he : k = n := by omega
        subst he
        go_wp2
        go_ret
        exact ⟨_, nl, rfl, hnl, HA.out, hown.is (by omega), hbw⟩
end Go.Proofs.Ytnibgmmoebmnlaa
