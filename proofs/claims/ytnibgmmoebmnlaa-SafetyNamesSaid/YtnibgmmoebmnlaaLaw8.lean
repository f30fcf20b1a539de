/- The walk of the law SafetyNames. -/
import Derived.Test.YtnibgmmoebmnlaaWy
import Derived.Deep.RegionHeld3
import Derived.Deep.CutRange
namespace Go.Proofs.Ytnibgmmoebmnlaa
open Go.RowKit
/-- A name that leaves room for a suffix of 40 bytes. -/
def Room (x : Nm) : Prop := x.1.size ≤ 140737488351232
theorem room_fit {s x : Nm} (h : Room x) (hs : s.1.size ≤ 40) : fitS s x := by
  unfold Room at h
  unfold fitS maxLen
  omega
theorem renB_fits {f : Nm → Nm} {b b' : List Lt} (h : RenB f b b') (hb : ∀ q ∈ b, q.targs.length ≤ 6) : ∀ q ∈ b', q.targs.length ≤ 6 := by
  intro q hq
  have : keyL q ∈ b.map (keyR f) := by
    unfold RenB at h
    rw [← h]; exact List.mem_map.2 ⟨q, hq, rfl⟩
  obtain ⟨q0, hq0, e⟩ := List.mem_map.1 this
  rw [(key_parts e.symm).2.2.1, List.length_map]
  exact hb q0 hq0
theorem ne_swap {a b : Option Nat} (h : a = none ∨ a ≠ b) : b = none ∨ b ≠ a := by
  cases b with
  | none => exact .inl rfl
  | some k =>
    refine .inr (fun e => ?_)
    rcases h with h | h
    · rw [h] at e; cases e
    · exact h e.symm
theorem names_cell {w : World} {a : Option Addr} {l : List Nm} (h : RowsAt 1 encS w a l) {b off i : Nat} (ha : a = some ⟨b, off, none⟩) {x : Nm} (hi : l[i]? = some x) : w.cell? ⟨b, off + i, none⟩ = some (.string x.1) := by
  obtain ⟨b2, o2, e2, c2⟩ := h.one hi rfl
  rw [ha] at e2
  simp only [Option.some.injEq, Addr.mk.injEq] at e2
  obtain ⟨rfl, rfl, -⟩ := e2
  exact c2
theorem ckD_ts {r : Rl} {n : Nat} {w : World} {Q : Ending → World → Prop} {L : List (Int × Int)} (h : IsRules w (.slice (some ⟨n, 0, none⟩) 1 1) [r]) (hf : Fits r) (hL : Hid (chk [r] = L))
    (k : ∀ v w', IsDiags w' v L → Below w.heap.size w w' → Q (.returned v) w') : Calls Try.prog 22 #[.agg #[.slice none 0 0, .slice none 0 0, .slice none 0 0, .slice (some ⟨n, 0, none⟩) 1 1]] w Q :=
  (Check_any ⟨.slice none 0 0, .slice none 0 0, .slice none 0 0, .slice (some ⟨n, 0, none⟩) 1 1, [r]⟩ w h (fun x hx => by
    have : x = r := by simpa using hx
    rw [this]; exact hf)).mono fun e w' ⟨⟨v, he, h1⟩, h2⟩ => by
    subst he
    exact k v w' (hL.out ▸ h1) h2
theorem dg_ts {v1 v2 : Value} {L : List (Int × Int)} {w : World} {Q : Ending → World → Prop} (h1 : IsDiags w v1 L) (h2 : IsDiags w v2 L)
    (k : ∀ w', Below w.heap.size w w' → Q (.returned (.bool true)) w') : Calls Try.prog 21 #[v1, v2] w Q :=
  (Diags_any v1 v2 L L w h1 h2).mono fun e w' ⟨he, h3⟩ => by
    subst he
    rw [decide_eq_true (rfl : L = L)]; exact k w' h3
theorem diags_alloc {w : World} {v : Value} {l : List (Int × Int)} {o : Obj} (h : IsDiags w v l) : IsDiags (w.alloc o) v l := h.keep (keeps_below (below_new w o))
theorem diags_drew {w : World} {v : Value} {l : List (Int × Int)} (h : IsDiags w v l) : IsDiags w.drew v l := h
theorem diags_step {w w' : World} {v : Value} {l : List (Int × Int)} (hb : Below w.heap.size w w') (h : IsDiags w v l) : IsDiags w' v l := h.keep (keeps_below hb)
theorem chk_same {q r : Rl} (h : safeP q = safeP r) (ha : q.at_ = r.at_) : chk [q] = chk [r] := by
  unfold chk
  cases hs : safeP r <;> simp [h, hs, ha]
theorem own_apart {w w' : World} {base : Nat} {va vq : Value} {La : List Nm} {o : Obj} (hva : OwnNames w base va La) (hne : va.ownBlock = none ∨ va.ownBlock ≠ vq.ownBlock) (hgrow : (w.alloc o).grownBy w' vq.ownBlock) {gg n cap : Nat} (hg1 : vq.ownBlock = some gg ∨ gg = (w.alloc o).heap.size) :
    OwnNames w' base va La ∧ (va.ownBlock = none ∨ va.ownBlock ≠ (Value.slice (some ⟨gg, 0, none⟩) n cap).ownBlock) := by
  have hlt := fun k hk => (World.ownsRow.lt hva k hk).2
  refine ⟨World.ownsRow.kept (World.ownsRow.alloc hva o) hgrow hne, ?_⟩
  cases hv : va.ownBlock with
  | none => exact .inl rfl
  | some k =>
    refine .inr (fun e => ?_)
    have e' : k = gg := by simpa [Value.ownBlock] using e
    rcases hg1 with hg1 | hg1
    · rcases hne with h0 | h0
      · rw [h0] at hv; cases hv
      · exact h0 (by rw [hv, hg1, e'])
    · have := hlt k hv; simp at hg1; omega
set_option maxHeartbeats 4000000 in
set_option maxRecDepth 100000 in
theorem law8_any (r : Rl) (v : Value) (l : List Nm) (s : Nm) (w : World) (h : RuleOk w r) (hs : IsNames w v l) (hr1 : ∀ t ∈ r.targs, Room t.var) (hr2 : Room r.evar) (hr3 : ∀ q ∈ r.lits, FitL Room q) (hr4 : ∀ x ∈ l, Room x) :
    Calls Try.prog 8 #[ruleV r, v, .string s.1] w fun e w' => e = .returned (.bool true) ∧ Below w.heap.size w w' := by
  obtain ⟨i0, hi0, hz0, hz1, hz2⟩ := info_parts info58'
  obtain ⟨i1, hi1, hz10, hz11, hz12⟩ := info_parts info9'
  obtain ⟨aa, ca, hargs, -, -⟩ := id h.1
  obtain ⟨ab, cb, hbody, hlits, -⟩ := id h.2.1
  have hok := h.2.2
  have hterms := h.1
  obtain ⟨rn, rp, ra, rt, rk, ren, rev, rei, rb, rl, rat⟩ := r
  dsimp only at hbody hargs hlits hok hr1 hr2 hr3 hterms
  subst hbody hargs
  unfold ruleV
  obtain ⟨wb, hwb⟩ : ∃ x : World, x = w.alloc (.cells (ruleCells ⟨rn, rp, .slice aa rt.length ca, rt, rk, ren, rev, rei, .slice ab rl.length cb, rl, rat⟩) 27) := ⟨_, rfl⟩
  have b0 : Below w.heap.size w wb := by subst hwb; exact below_new _ _
  have hxR := fun w' (hb : Below wb.heap.size wb w') => ruleBox_at (w := w) (r := ⟨rn, rp, .slice aa rt.length ca, rt, rk, ren, rev, rei, .slice ab rl.length cb, rl, rat⟩) (w' := w') (by subst hwb; exact hb)
  unfold ruleCells at hwb
  dsimp only at hwb hxR
  go_enter Try.func8, Try.ntmps8
  go_wp2_with fail
  rw [← hwb]
  clear hwb
  refine (head_any _).mono ?_
  rintro e w1 ⟨rfl, b1⟩
  obtain ⟨r0, r1, r2, r3, r4, r5, r6, r7, r8⟩ := hxR _ b1
  have c1 := below_trans b0 b1
  go_wp2_with fail
  refine (Small_any ⟨rn, rp, .slice aa rt.length ca, rt, rk, ren, rev, rei, .slice ab rl.length cb, rl, rat⟩ _ (h.keep (keeps_below c1))).mono ?_
  rintro e w2 ⟨rfl, b2⟩
  have d2 := below_trans b1 b2
  have c2 := below_trans b0 d2
  cases hsm : small ⟨rn, rp, .slice aa rt.length ca, rt, rk, ren, rev, rei, .slice ab rl.length cb, rl, rat⟩
  · go_wp2
    go_ret
    exact ⟨rfl, c2⟩
  have hfit := small_fits hsm
  have hsp := (small_parts hsm).2.1
  have hfit1 : rl.length ≤ 20 := hfit.1
  have hfit2 : ∀ q ∈ rl, q.targs.length ≤ 6 := hfit.2
  have hfit3 : rt.length ≤ 6 := hsp
  clear r0 r1 r2 r3 r4 r5 r6 r7 r8
  go_wp2_with fail
  refine (few_any v l _ (hs.keep (keeps_below c2))).mono ?_
  rintro e w3 ⟨rfl, b3⟩
  have d3 := below_trans d2 b3
  have c3 := below_trans b0 d3
  by_cases hfew : l.length ≤ 20
  case neg =>
    have hd : decide (l.length ≤ 20) = false := decide_eq_false hfew
    go_wp2
    go_ret
    exact ⟨rfl, c3⟩
  have hd : decide (l.length ≤ 20) = true := decide_eq_true hfew
  by_cases hs40 : s.1.size ≤ 40
  case neg =>
    go_wp2
    go_ret
    exact ⟨rfl, c3⟩
  have hl1 : l.length ≤ 1000 := by omega
  have HR1 : ∀ t ∈ rt, fitS s t.var := fun t ht => room_fit (hr1 t ht) hs40
  have HR2 : fitS s rev := room_fit hr2 hs40
  have HR3 : ∀ q ∈ rl, FitL (fitS s) q := fun q hq => ⟨fun t ht => room_fit ((hr3 q hq).1 t ht) hs40, room_fit (hr3 q hq).2 hs40⟩
  have HR4 : ∀ x ∈ l, fitS s x := fun x hx => room_fit (hr4 x hx) hs40
  clear hr1 hr2 hr3 hr4
  obtain ⟨r0, r1, r2, r3, r4, r5, r6, r7, r8⟩ := hxR _ d3
  obtain ⟨wq, hwq⟩ : ∃ x : World, x = w3.alloc (.cells #[.string rn.1, .int .i64 rp, .slice aa rt.length ca, .int .i64 rk, .string ren.1, .string rev.1, .int .i64 rei, .slice ab rl.length cb, .int .i64 rat] 27) := ⟨_, rfl⟩
  have hq0 : wq.heap[w3.heap.size]? = some (.cells #[.string rn.1, .int .i64 rp, .slice aa rt.length ca, .int .i64 rk, .string ren.1, .string rev.1, .int .i64 rei, .slice ab rl.length cb, .int .i64 rat] 27 (0, 0)) := by subst hwq; exact heap_alloc_new w3 _
  have b3q : Below w3.heap.size w3 wq := by subst hwq; exact below_new _ _
  have s3q : w3.heap.size < wq.heap.size := by subst hwq; simp
  go_upto_region 5 with fail
  rw [← hwq]
  clear hwq r0 r1 r2 r3 r4 r5 r6 r7 r8
  have dq := below_trans d3 b3q
  have cq := below_trans b0 dq
  obtain ⟨-, -, r2, -, -, -, -, -, -⟩ := hxR _ dq
  go_wp2_with fail
  refine (renamed_any _ rt s _ (hterms.keep (keeps_below cq)) HR1 hfit3).mono ?_
  obtain ⟨rt', hrt'⟩ : ∃ x, x = rt.map (renT (sufx s)) := ⟨_, rfl⟩
  rw [← hrt']
  have HRT := Lib.hid hrt'
  clear hrt'
  rintro e w4 ⟨vt, rfl, hvo, b4⟩
  obtain ⟨aq, cq', hvte⟩ := hvo.len
  subst hvte
  have hrl' : rt'.length ≤ 6 := by rw [HRT.out, List.length_map]; exact hfit3
  have hvt := hvo.is (by omega)
  have hq4 := (b4.block _ s3q).trans hq0
  have y2 := cell_of_row w4 w3.heap.size 2 _ 27 (0, 0) hq4
  have f2 : w4.frozen? ⟨w3.heap.size, 2, none⟩ = false := by simp [World.frozen?, hq4]
  simp only [List.getElem?_toArray, List.getElem?_cons_zero, List.getElem?_cons_succ] at y2
  obtain ⟨w5, hw5⟩ : ∃ x : World, x = w4.setCell ⟨w3.heap.size, 2, none⟩ (.slice aq rt'.length cq') := ⟨_, rfl⟩
  have hq5 : w5.heap[w3.heap.size]? = some (.cells #[.string rn.1, .int .i64 rp, .slice aq rt'.length cq', .int .i64 rk, .string ren.1, .string rev.1, .int .i64 rei, .slice ab rl.length cb, .int .i64 rat] 27 (0, 0)) := by rw [hw5]; exact heap_setCell_same w4 w3.heap.size 2 _ 27 (.slice aq rt'.length cq') hq4
  have g5 : w4.grownBy w5 (some w3.heap.size) := by rw [hw5]; exact grown_setCell _ ⟨w3.heap.size, 2, none⟩ _
  go_upto_region 6 with fail
  rw [← hw5]
  clear hw5 y2 f2 r2
  have b35 : Below w3.heap.size w3 w5 := (below_trans b3q b4).grown g5 (by have := b4.size; omega) (fun i hi => by have : w3.heap.size = i := (by simpa using hi); omega)
  have y5 := cell_of_row w5 w3.heap.size 5 _ 27 (0, 0) hq5
  have f5 : w5.frozen? ⟨w3.heap.size, 5, none⟩ = false := by simp [World.frozen?, hq5]
  simp only [List.getElem?_toArray, List.getElem?_cons_zero, List.getElem?_cons_succ] at y5
  go_upto_if 50 with fail
  obtain ⟨B, hB⟩ : ∃ b, (!rev.val.toList.isEmpty) = b := ⟨_, rfl⟩
  rw [hB]
  go_cut [] from 51 to 57 (fun wx => wx.heap[w3.heap.size]? = some (.cells #[.string rn.1, .int .i64 rp, .slice aq rt'.length cq', .int .i64 rk, .string ren.1, .string (sufx s rev).1, .int .i64 rei, .slice ab rl.length cb, .int .i64 rat] 27 (0, 0)) ∧ w5.grownBy wx (some w3.heap.size))
  case first =>
    cases B
    · have hbl : rev = noName := Classical.byContradiction fun hc => by
        have := (nm_full hc).2
        simp [this] at hB
      have he : sufx s rev = rev := by rw [hbl]; simp [sufx]
      clear hbl hB
      go_wp2
      go_meet
      case rel => exact ⟨by rw [he]; exact hq5, World.grownBy.refl _ _⟩
    · have hbl : rev ≠ noName := fun hc => by
        have := nm_blank hc
        simp [this] at hB
      have hj := run_join HR2 hbl
      have hjb : rev.1.size + s.1.size ≤ 9223372036854775807 := by have := HR2; unfold fitS maxLen at this; omega
      have HJ := Lib.hid (sufx_full HR2 hbl)
      clear hbl hB
      go_wp2
      go_meet
      case rel => exact ⟨by rw [HJ.out]; exact heap_setCell_same w5 w3.heap.size 5 _ 27 _ hq5, grown_setCell _ ⟨w3.heap.size, 5, none⟩ _⟩
  case rest =>
    obtain ⟨hq6, g6⟩ := hcut
    obtain ⟨w6, rfl⟩ : ∃ x : World, x = wc := ⟨_, rfl⟩
    have b36 : Below w3.heap.size w3 w6 := b35.grown g6 b35.size (fun i hi => by have : w3.heap.size = i := (by simpa using hi); omega)
    have y7 := cell_of_row w6 w3.heap.size 7 _ 27 (0, 0) hq6
    have f7 : w6.frozen? ⟨w3.heap.size, 7, none⟩ = false := by simp [World.frozen?, hq6]
    simp only [List.getElem?_toArray, List.getElem?_cons_zero, List.getElem?_cons_succ] at y7
    obtain ⟨w7, hw7⟩ : ∃ x : World, x = w6.setCell ⟨w3.heap.size, 7, none⟩ (.slice none 0 0) := ⟨_, rfl⟩
    have hq7 : QBox w7 w3.heap.size (fun u => #[.string rn.1, .int .i64 rp, .slice aq rt'.length cq', .int .i64 rk, .string ren.1, .string (sufx s rev).1, .int .i64 rei, u, .int .i64 rat]) (.slice none 0 0) := by rw [hw7]; exact heap_setCell_same w6 w3.heap.size 7 _ 27 _ hq6
    have g7 : w6.grownBy w7 (some w3.heap.size) := by rw [hw7]; exact grown_setCell _ ⟨w3.heap.size, 7, none⟩ _
    have b37 : Below w3.heap.size w3 w7 := b36.grown g7 b36.size (fun i hi => by have : w3.heap.size = i := (by simpa using hi); omega)
    have hvt7 : OwnTerms w7 wq.heap.size (.slice aq rt'.length cq') rt' := by
      have hb0 : ∀ k, (Value.slice aq rt'.length cq').ownBlock = some k → k ≠ w3.heap.size := fun k hk => by
        have := own_from hvo k hk; omega
      have h5 := World.ownsRow.kept hvo g5 (by
        cases hv : (Value.slice aq rt'.length cq').ownBlock with
        | none => exact .inl rfl
        | some k => exact .inr (fun e => hb0 k hv (by simpa using e)))
      have h6 := World.ownsRow.kept h5 g6 (by
        cases hv : (Value.slice aq rt'.length cq').ownBlock with
        | none => exact .inl rfl
        | some k => exact .inr (fun e => hb0 k hv (by simpa using e)))
      have h7 := World.ownsRow.kept h6 g7 (by
        cases hv : (Value.slice aq rt'.length cq').ownBlock with
        | none => exact .inl rfl
        | some k => exact .inr (fun e => hb0 k hv (by simpa using e)))
      exact h7
    go_upto_region 9 with fail
    rw [← hw7]
    clear hw7 y7 f7 hq5 hq6 y5 f5 g5 g6 g7 hq4 hvt hvo b35 b36
    have d7 := below_trans d3 b37
    have c7 := below_trans b0 d7
    have s37 : w3.heap.size < w7.heap.size := (Array.getElem?_eq_some_iff.1 hq7).1
    go_wp2
    go_loopw [9] (fun iv wr => ∃ k : Nat, k ≤ rl.length ∧ iv = .int .i64 k ∧ ∃ (vq : Value) (qs : List Lt), Hid (RenB (sufx s) (rl.take k) qs) ∧ qs.length = k ∧ (∀ q ∈ qs, OwnTerms wr w7.heap.size q.args q.targs ∧ (q.args.ownBlock = none ∨ q.args.ownBlock ≠ vq.ownBlock)) ∧ OwnLits wr w7.heap.size vq qs ∧ QBox wr w3.heap.size (fun u => #[.string rn.1, .int .i64 rp, .slice aq rt'.length cq', .int .i64 rk, .string ren.1, .string (sufx s rev).1, .int .i64 rei, u, .int .i64 rat]) vq ∧ OwnTerms wr wq.heap.size (.slice aq rt'.length cq') rt' ∧ ((Value.slice aq rt'.length cq').ownBlock = none ∨ (Value.slice aq rt'.length cq').ownBlock ≠ vq.ownBlock) ∧ Below w3.heap.size w3 wr ∧ w7.heap.size ≤ wr.heap.size) (fun iv _ => rl.length - (intOf iv).toNat)
    case atStart => exact ⟨0, by simp, rfl, _, [], Lib.hid (by simp [RenB]), rfl, by simp, World.ownsRow_nil _ _ _ _, hq7, hvt7, by cases hv : (Value.slice aq rt'.length cq').ownBlock with
      | none => exact .inl rfl
      | some k => exact .inr (by simp [Value.ownBlock]), b37, Nat.le_refl _⟩
    case round =>
      obtain ⟨k, hk, rfl, vq, qs, HQ, hql, hargs, hown, hbox, hvt, hvne0, hb, hsz⟩ := hrel
      subst hql
      obtain ⟨wo, rfl⟩ : ∃ x : World, x = wr := ⟨_, rfl⟩
      have dW := below_trans d3 hb
      have cW := below_trans b0 dW
      by_cases hlt : qs.length < rl.length
      · obtain ⟨b', off, eab, q0, q1, q2, q3, q4, q5, q6, q7, q8⟩ := lits_at (hlits.keep (keeps_below cW)) (List.getElem?_eq_getElem hlt)
        have hq := hok rl[qs.length] (List.getElem_mem hlt)
        have hq6 := hfit2 rl[qs.length] (List.getElem_mem hlt)
        have hqf := HR3 rl[qs.length] (List.getElem_mem hlt)
        have HT := Lib.hid (List.take_succ_eq_append_getElem hlt)
        generalize rl[qs.length] = q at *
        have hqT : IsTerms w q.args q.targs := hq
        obtain ⟨pa, pc, hqa, -, hqm⟩ := hq
        obtain ⟨qk, qn, qp, qa, qt, qb, qe, ql, qo, qat⟩ := q
        dsimp only at *
        subst hqa
        subst eab
        obtain ⟨-, -, -, -, -, -, -, r7, -⟩ := hxR _ dW
        have g1 : (qs.length : Int) < rl.length := by omega
        obtain ⟨wl, hwl⟩ : ∃ x : World, x = wo.alloc (.cells #[.int .i64 qk, .string qn.1, .int .i64 qp, .slice pa qt.length pc, .string qb.1, .string qe.1, .int .i64 ql, .int .i64 qo, .int .i64 qat] 58) := ⟨_, rfl⟩
        have bl : Below wo.heap.size wo wl := by subst hwl; exact below_new _ _
        have hl0 : wl.heap[wo.heap.size]? = some (.cells #[.int .i64 qk, .string qn.1, .int .i64 qp, .slice pa qt.length pc, .string qb.1, .string qe.1, .int .i64 ql, .int .i64 qo, .int .i64 qat] 58 (0, 0)) := by subst hwl; exact heap_alloc_new wo _
        have y3 := cell_of_row wl wo.heap.size 3 _ 58 (0, 0) hl0
        simp only [List.getElem?_toArray, List.getElem?_cons_zero, List.getElem?_cons_succ] at y3
        go_upto_region 13 with fail
        rw [← hwl]
        clear hwl q0 q1 q2 q3 q4 q5 q6 q7 q8
        have slo : wo.heap.size < wl.heap.size := (Array.getElem?_eq_some_iff.1 hl0).1
        go_wp2_with fail
        refine (renamed_any _ qt s _ (hqT.keep (keeps_below (below_trans cW bl))) hqf.1 hq6).mono ?_
        obtain ⟨L2, hL2⟩ : ∃ x, x = qt.map (renT (sufx s)) := ⟨_, rfl⟩
        rw [← hL2]
        have HL2 := Lib.hid hL2
        have hL6 : L2.length ≤ 6 := by rw [hL2, List.length_map]; exact hq6
        clear hL2 y3
        rintro e w2' ⟨v2, rfl, hv2, b2'⟩
        obtain ⟨a2, c2', hv2e⟩ := hv2.len
        subst hv2e
        have hl2 := (b2'.block _ slo).trans hl0
        have y3 := cell_of_row w2' wo.heap.size 3 _ 58 (0, 0) hl2
        have f3 : w2'.frozen? ⟨wo.heap.size, 3, none⟩ = false := by simp [World.frozen?, hl2]
        simp only [List.getElem?_toArray, List.getElem?_cons_zero, List.getElem?_cons_succ] at y3
        obtain ⟨w5', hw5⟩ : ∃ x : World, x = w2'.setCell ⟨wo.heap.size, 3, none⟩ (.slice a2 L2.length c2') := ⟨_, rfl⟩
        have hl5 : w5'.heap[wo.heap.size]? = some (.cells #[.int .i64 qk, .string qn.1, .int .i64 qp, .slice a2 L2.length c2', .string qb.1, .string qe.1, .int .i64 ql, .int .i64 qo, .int .i64 qat] 58 (0, 0)) := by rw [hw5]; exact heap_setCell_same w2' wo.heap.size 3 _ 58 _ hl2
        have g5 : w2'.grownBy w5' (some wo.heap.size) := by rw [hw5]; exact grown_setCell _ ⟨wo.heap.size, 3, none⟩ _
        go_upto_region 14 with fail
        rw [← hw5]
        clear hw5 y3 f3
        have y4 := cell_of_row w5' wo.heap.size 4 _ 58 (0, 0) hl5
        have f4 : w5'.frozen? ⟨wo.heap.size, 4, none⟩ = false := by simp [World.frozen?, hl5]
        simp only [List.getElem?_toArray, List.getElem?_cons_zero, List.getElem?_cons_succ] at y4
        go_upto_if 78 with fail
        obtain ⟨B, hB⟩ : ∃ b, (!qb.val.toList.isEmpty) = b := ⟨_, rfl⟩
        rw [hB]
        go_cut [] from 79 to 83 (fun wx => wx.heap[wo.heap.size]? = some (.cells #[.int .i64 qk, .string qn.1, .int .i64 qp, .slice a2 L2.length c2', .string (sufx s qb).1, .string qe.1, .int .i64 ql, .int .i64 qo, .int .i64 qat] 58 (0, 0)) ∧ w5'.grownBy wx (some wo.heap.size))
        case first =>
          cases B
          · have hbl : qb = noName := Classical.byContradiction fun hc => by
              have := (nm_full hc).2
              simp [this] at hB
            have he : sufx s qb = qb := by rw [hbl]; simp [sufx]
            clear hbl hB
            go_wp2
            go_meet
            case rel => exact ⟨by rw [he]; exact hl5, World.grownBy.refl _ _⟩
          · have hbl : qb ≠ noName := fun hc => by
              have := nm_blank hc
              simp [this] at hB
            have hj := run_join hqf.2 hbl
            have hjb : qb.1.size + s.1.size ≤ 9223372036854775807 := by have := hqf.2; unfold fitS maxLen at this; dsimp only at this; omega
            have HJ := Lib.hid (sufx_full hqf.2 hbl)
            clear hbl hB
            go_wp2
            go_meet
            case rel => exact ⟨by rw [HJ.out]; exact heap_setCell_same w5' wo.heap.size 4 _ 58 _ hl5, grown_setCell _ ⟨wo.heap.size, 4, none⟩ _⟩
        case rest =>
          obtain ⟨hl6, g6⟩ := hcut
          obtain ⟨w6', rfl⟩ : ∃ x : World, x = wc := ⟨_, rfl⟩
          clear hl5 y4 f4 hl2 hl0
          -- from wo to w6': below wo nothing has changed
          have b26 : Below wo.heap.size wo w6' := ((below_trans bl b2').grown g5 (by have := b2'.size; omega) (fun i hi => by have : wo.heap.size = i := (by simpa using hi); omega)).grown g6 (by have := b2'.size; have := g5.size; omega) (fun i hi => by have : wo.heap.size = i := (by simpa using hi); omega)
          have hbo : QBox w6' w3.heap.size (fun u => #[.string rn.1, .int .i64 rp, .slice aq rt'.length cq', .int .i64 rk, .string ren.1, .string (sufx s rev).1, .int .i64 rei, u, .int .i64 rat]) vq := hbox.kept (grown_none b26 none) (by simp)
          have hown6 : OwnLits w6' w7.heap.size vq qs := World.ownsRow.kept hown (grown_none b26 none) (by cases vq.ownBlock <;> simp)
          have hargs6 : ∀ q ∈ qs, OwnTerms w6' w7.heap.size q.args q.targs ∧ (q.args.ownBlock = none ∨ q.args.ownBlock ≠ vq.ownBlock) := fun q hq => ⟨World.ownsRow.kept (hargs q hq).1 (grown_none b26 none) (by cases q.args.ownBlock <;> simp), (hargs q hq).2⟩
          have hvl := fun k hk => (World.ownsRow.lt hown k hk).2
          have hvt6 : OwnTerms w6' wq.heap.size (.slice aq rt'.length cq') rt' := World.ownsRow.kept hvt (grown_none b26 none) (by cases (Value.slice aq rt'.length cq').ownBlock <;> simp)
          have hvo := own_from hown
          have hvb2 := own_from hv2
          have hne2 : ∀ k, (Value.slice a2 L2.length c2').ownBlock = some k → wo.heap.size < k := fun k hk => by have := hvb2 k hk; omega
          have hv6 : OwnTerms w6' w7.heap.size (.slice a2 L2.length c2') L2 := by
            have h5 := World.ownsRow.kept hv2 g5 (by
              cases hv : (Value.slice a2 L2.length c2').ownBlock with
              | none => exact .inl rfl
              | some k => exact .inr (fun e => by have := hne2 k hv; simp at e; omega))
            have h6 := World.ownsRow.kept h5 g6 (by
              cases hv : (Value.slice a2 L2.length c2').ownBlock with
              | none => exact .inl rfl
              | some k => exact .inr (fun e => by have := hne2 k hv; simp at e; omega))
            exact OwnTerms.weaken h6 (by omega)
          have s6 : wo.heap.size < w6'.heap.size := (Array.getElem?_eq_some_iff.1 hl6).1
          have x7 : w6'.cell? ⟨w3.heap.size, 7, none⟩ = some vq := hbo.cell 7
          have z0 := cell_of_row w6' wo.heap.size 0 _ 58 (0, 0) hl6
          have z1 := cell_of_row w6' wo.heap.size 1 _ 58 (0, 0) hl6
          have z2 := cell_of_row w6' wo.heap.size 2 _ 58 (0, 0) hl6
          have z3 := cell_of_row w6' wo.heap.size 3 _ 58 (0, 0) hl6
          have z4 := cell_of_row w6' wo.heap.size 4 _ 58 (0, 0) hl6
          have z5 := cell_of_row w6' wo.heap.size 5 _ 58 (0, 0) hl6
          have z6 := cell_of_row w6' wo.heap.size 6 _ 58 (0, 0) hl6
          have z7 := cell_of_row w6' wo.heap.size 7 _ 58 (0, 0) hl6
          have z8 := cell_of_row w6' wo.heap.size 8 _ 58 (0, 0) hl6
          simp only [List.getElem?_toArray, List.getElem?_cons_zero, List.getElem?_cons_succ] at z0 z1 z2 z3 z4 z5 z6 z7 z8
          have ho7 := World.ownsRow.alloc hown6 (.cells #[.int .i64 qk, .string qn.1, .int .i64 qp, .slice a2 L2.length c2', .string (sufx s qb).1, .string qe.1, .int .i64 ql, .int .i64 qo, .int .i64 qat] 58)
          have hn1 : qs.length + 1 ≤ maxLen := by unfold maxLen; omega
          have hn2 : (qs.length + 1) * 112 ≤ 140737488355328 := by omega
          have hbx := hb.size
          have hbxa : QBox (w6'.alloc (.cells #[.int .i64 qk, .string qn.1, .int .i64 qp, .slice a2 L2.length c2', .string (sufx s qb).1, .string qe.1, .int .i64 ql, .int .i64 qo, .int .i64 qat] 58)) w3.heap.size (fun u => #[.string rn.1, .int .i64 rp, .slice aq rt'.length cq', .int .i64 rk, .string ren.1, .string (sufx s rev).1, .int .i64 rei, u, .int .i64 rat]) vq := hbo.kept (World.grownBy_alloc _ _ none) (by simp)
          have hvne : ∀ k, vq.ownBlock = some k → k ≠ w3.heap.size := fun k hk => by have := hvo k hk; omega
          go_wp2_with (at_builtin; refine wpList_append_lies _ rfl _ _ 25 rfl w7.heap.size 58 i0 (.agg #[.int .i64 0, .string ⟨#[]⟩, .int .i64 0, .slice none 0 0, .string ⟨#[]⟩, .string ⟨#[]⟩, .int .i64 0, .int .i64 0, .int .i64 0]) 9 112 Try.underlying25 hi0 hz0 hz1 hz2 rfl (by decide) vq qs.length (qs.flatMap encL) rfl ho7 ⟨w6'.heap.size, 0, none⟩ 1 1 [.int .i64 qk, .string qn.1, .int .i64 qp, .slice a2 L2.length c2', .string (sufx s qb).1, .string qe.1, .int .i64 ql, .int .i64 qo, .int .i64 qat] rfl rfl (World.news_of_block (t := 58) (fr := (0, 0)) (heap_alloc_new w6' _)) (by simp [Value.oneCell']) (by decide) hn1 hn2 (by simp; omega) _ rfl ?_; intro gg cap w8 hown' hgrow hg1 hg2; have hbx8 := hbxa.kept hgrow (fun e => hvne _ e.symm rfl); have x8 : w8.cell? ⟨w3.heap.size, 7, none⟩ = some vq := hbx8.cell 7; have f8 := hbx8.frozen 7)
          have g9 := grown_setCell w8 ⟨w3.heap.size, 7, none⟩ (.slice (some ⟨gg, 0, none⟩) (qs.length + 1) cap)
          have hgl : gg ≠ w3.heap.size := by
            rcases hg1 with hg1 | hg1
            · exact hvne _ hg1
            · simp at hg1; omega
          have ho9 := World.ownsRow.kept hown' g9 (Or.inr (by simp [Value.ownBlock]; exact hgl))
          have hbx9 := hbx8.set (u := .slice (some ⟨gg, 0, none⟩) (qs.length + 1) cap) rfl
          have hs8 := hgrow.size
          simp at hs8
          have hb9 := ((((hb.trans (b26.mono hbx)).alloc (by omega) (.cells #[.int .i64 qk, .string qn.1, .int .i64 qp, .slice a2 L2.length c2', .string (sufx s qb).1, .string qe.1, .int .i64 ql, .int .i64 qo, .int .i64 qat] 58)).grown hgrow (by simp; omega) (fun i hi => by have := hvo i hi; omega)).grown g9 (by omega) (by simp))
          -- the rows of the terms lie elsewhere
          have hother : ∀ (Bs : Nat) (va : Value) (La : List Tm), w3.heap.size < Bs → OwnTerms w6' Bs va La → (va.ownBlock = none ∨ va.ownBlock ≠ vq.ownBlock) → OwnTerms (w8.setCell ⟨w3.heap.size, 7, none⟩ (.slice (some ⟨gg, 0, none⟩) (qs.length + 1) cap)) Bs va La ∧ (va.ownBlock = none ∨ va.ownBlock ≠ (Value.slice (some ⟨gg, 0, none⟩) (qs.length + 1) cap).ownBlock) := fun Bs va La hBs hva hne => by
            have k1 := World.ownsRow.alloc hva (.cells #[.int .i64 qk, .string qn.1, .int .i64 qp, .slice a2 L2.length c2', .string (sufx s qb).1, .string qe.1, .int .i64 ql, .int .i64 qo, .int .i64 qat] 58)
            have k2 := World.ownsRow.kept k1 hgrow hne
            have hb7 := own_from hva
            have hlt7 := fun k hk => (World.ownsRow.lt hva k hk).2
            have k3 := World.ownsRow.kept k2 g9 (by
              cases hv : va.ownBlock with
              | none => exact .inl rfl
              | some k => exact .inr (fun e => by have := hb7 k hv; simp at e; omega))
            refine ⟨k3, ?_⟩
            cases hv : va.ownBlock with
            | none => exact .inl rfl
            | some k =>
              refine .inr (fun e => ?_)
              have e' : k = gg := by simpa [Value.ownBlock] using e
              rcases hg1 with hg1 | hg1
              · rcases hne with h0 | h0
                · rw [h0] at hv; cases hv
                · exact h0 (by rw [hv, hg1, e'])
              · have := hlt7 k hv; simp at hg1; omega
          have hvq2 : (Value.slice a2 L2.length c2').ownBlock = none ∨ (Value.slice a2 L2.length c2').ownBlock ≠ vq.ownBlock := by
            cases hv : (Value.slice a2 L2.length c2').ownBlock with
            | none => exact .inl rfl
            | some k => exact .inr (fun e => by have := hne2 k hv; have := hvl k e.symm; omega)
          have HS := Lib.hid (show RenB (sufx s) (rl.take (qs.length + 1)) (qs ++ [⟨qk, qn, qp, .slice a2 L2.length c2', L2, sufx s qb, qe, ql, qo, qat⟩]) by
            unfold RenB
            rw [HT.out, List.map_append, List.map_append, HQ.out, List.map_singleton, List.map_singleton]
            simp only [keyL, keyR, HL2.out])
          go_wp2
          go_roundw
          case rel =>
            have hv9 := hother _ _ _ s3q hvt6 hvne0
            refine ⟨qs.length + 1, by omega, by go_num, _, _, HS, by simp, ?_, ?_, hbx9, hv9.1, hv9.2, hb9, by simp; omega⟩
            · intro q hq
              rcases List.mem_append.1 hq with hq | hq
              · exact hother _ _ _ s37 (hargs6 q hq).1 (hargs6 q hq).2
              · obtain rfl := List.mem_singleton.1 hq
                exact hother _ _ _ s37 hv6 hvq2
            · unfold OwnLits
              simpa [List.flatMap_append, encL] using ho9
          case measure => simp [intOf]; omega
      · have he : qs.length = rl.length := by omega
        have HB := Lib.hid (show RenB (sufx s) rl qs by have := HQ.out; rw [he, List.take_length] at this; exact this)
        have hql20 : qs.length ≤ 20 := by omega
        have hqf6 : ∀ q ∈ qs, q.targs.length ≤ 6 := renB_fits HB.out hfit2
        obtain ⟨av, cv, rfl⟩ := hown.len
        have hLits : IsLits wo (.slice av qs.length cv) qs := ⟨IsRows.of_owns hown (fun _ _ => rfl) (by omega), fun q hq => (hargs q hq).1.is (by have := hqf6 q hq; omega)⟩
        have hRq : RuleOk wo ⟨rn, rp, .slice aq rt'.length cq', rt', rk, ren, sufx s rev, rei, .slice av qs.length cv, qs, rat⟩ := ⟨hvt.is (by omega), hLits⟩
        have hxQ := fun (W : World) (hW : Below wo.heap.size wo W) (j : Nat) (u : Value) (e : (#[.string rn.1, .int .i64 rp, .slice aq rt'.length cq', .int .i64 rk, .string ren.1, .string (sufx s rev).1, .int .i64 rei, .slice av qs.length cv, .int .i64 rat] : Array Value)[j]? = some u) => cell_keep hW ((hbox.cell j).trans e)
        clear hargs hown HQ he hk hvt hvne0 hLits
        obtain ⟨pl, cl, hlv, hlr, hlm⟩ := id hs
        subst hlv
        go_wp2
        go_loopw [11, 12, 13] (fun v11 v12 iv wr => ∃ (k : Nat) (z : Int), k ≤ l.length ∧ iv = .int .i64 z ∧ z + 1 = k ∧ ∃ oth : List Nm, oth.length ≤ l.length - k ∧ Hid (∀ y, y ∈ oth ↔ ∃ x, x ∈ l.drop k ∧ x ≠ noName ∧ sufx s x = y) ∧ OwnNames wr wo.heap.size v11 oth ∧ OwnNames wr wo.heap.size v12 (l.drop k).reverse ∧ (v11.ownBlock = none ∨ v11.ownBlock ≠ v12.ownBlock) ∧ Below wo.heap.size wo wr) (fun _ _ iv _ => (intOf iv + 1).toNat)
        case atStart => exact ⟨l.length, _, Nat.le_refl _, rfl, by omega, [], by simp, Lib.hid (by simp), World.ownsRow_nil _ _ _ _, by unfold OwnNames; simpa using World.ownsRow_nil _ _ _ _, .inl rfl, Below.refl _ _⟩
        case round =>
          obtain ⟨k, z, hk, rfl, hz, oth, hol, HO, ho1, ho2, hne1, hb2⟩ := hrel
          obtain ⟨wp, rfl⟩ : ∃ x : World, x = wr := ⟨_, rfl⟩
          have hb2s := hb2.size
          by_cases hz0 : 0 ≤ z
          · obtain ⟨j, rfl⟩ : ∃ j : Nat, z = (j : Int) := ⟨z.toNat, by omega⟩
            obtain rfl : k = j + 1 := by omega
            have hjl : j < l.length := by omega
            have hj1 : (j : Int) < l.length := by omega
            obtain ⟨bn, on, epl, n0⟩ := (hlr.keep (keeps_below (below_trans cW hb2))).one (List.getElem?_eq_getElem hjl) rfl
            have hcell := fun (W : World) (hW : Below wo.heap.size wo W) => names_cell (hlr.keep (keeps_below (below_trans cW hW))) epl (List.getElem?_eq_getElem hjl)
            have hd := List.drop_eq_getElem_cons hjl
            have HD := Lib.hid (show (l.drop j).reverse = (l.drop (j + 1)).reverse ++ [l[j]] by rw [hd, List.reverse_cons])
            have HDD := Lib.hid hd
            have hfx := HR4 l[j] (List.getElem_mem hjl)
            have hdl : ((l.drop (j + 1)).reverse).length = l.length - (j + 1) := by simp
            clear hd
            generalize l[j] = x at *
            generalize hDR : (l.drop (j + 1)).reverse = dr at *
            have HDR := Lib.hid hDR
            clear hDR
            subst epl
            have hdl20 : dr.length ≤ 20 := by omega
            clear hdl
            have hol20 : oth.length ≤ 20 := by omega
            have n1 : dr.length + 1 ≤ maxLen := by unfold maxLen; omega
            have n2 : (dr.length + 1) * 16 ≤ 140737488355328 := by omega
            have ho2a := World.ownsRow.alloc ho2 (.cells #[.string x.1] 9)
            have hvo1 := own_from ho1
            have hvo2 := own_from ho2
            by_cases hbl : x = noName
            · have hnb := nm_blank hbl
              have HO' := Lib.hid (show ∀ y, y ∈ oth ↔ ∃ x, x ∈ l.drop j ∧ x ≠ noName ∧ sufx s x = y from fun y => by
                rw [HO.out, HDD.out]
                constructor
                · rintro ⟨x', h1, h2⟩; exact ⟨x', List.mem_cons_of_mem _ h1, h2⟩
                · rintro ⟨x', h1, h2, h3⟩
                  rcases List.mem_cons.1 h1 with h1 | h1
                  · exact absurd (h1.trans hbl) h2
                  · exact ⟨x', h1, h2, h3⟩)
              clear hbl
              go_wp2_with (at_builtin; refine wpList_append_lies _ rfl _ _ 28 rfl wo.heap.size 9 i1 (.string ⟨#[]⟩) 1 16 Try.underlying28 hi1 hz10 hz11 hz12 rfl (by decide) u12 dr.length (dr.flatMap encS) rfl ho2a ⟨wp.heap.size, 0, none⟩ 1 1 [.string x.1] rfl rfl (cell_str _ _) (by simp [Value.oneCell']) (by decide) n1 n2 (by simp; omega) _ rfl ?_; intro gg cap w5 hown' hgrow hg1 hg2; have hb5 := (hb2.alloc hb2s (.cells #[.string x.1] 9)).grown hgrow (by simp; omega) (fun i hi => hvo2 i hi); have n5 := hcell _ hb5)
              obtain ⟨ho1', hne1'⟩ := own_apart (vq := u12) (n := dr.length + 1) (cap := cap) ho1 hne1 hgrow hg1
              go_roundw
              case rel =>
                refine ⟨j, (j : Int) - 1, by omega, by go_num, by omega, oth, by omega, HO', ho1', ?_, hne1', hb5⟩
                rw [HD.out]
                unfold OwnNames
                simpa [List.flatMap_append, encS] using hown'
              case measure => (simp [intOf] <;> omega)
            · obtain ⟨hnf, hnf'⟩ := nm_full hbl
              have hj := run_join hfx hbl
              have HJ := Lib.hid (sufx_full hfx hbl)
              have hjb : x.1.size + s.1.size ≤ 9223372036854775807 := by have := hfx; unfold fitS maxLen at this; omega
              have HO' := Lib.hid (show ∀ y, y ∈ oth ++ [sufx s x] ↔ ∃ x', x' ∈ l.drop j ∧ x' ≠ noName ∧ sufx s x' = y from fun y => by
                rw [List.mem_append, HO.out, HDD.out, List.mem_singleton]
                constructor
                · rintro (⟨x', h1, h2⟩ | rfl)
                  · exact ⟨x', List.mem_cons_of_mem _ h1, h2⟩
                  · exact ⟨x, List.mem_cons_self, hbl, rfl⟩
                · rintro ⟨x', h1, h2, h3⟩
                  rcases List.mem_cons.1 h1 with h1 | h1
                  · exact .inr (by rw [← h3, h1])
                  · exact .inl ⟨x', h1, h2, h3⟩)
              have hub : (sufx s x).1 = x.1 ++ s.1 := HJ.out
              clear hbl
              generalize sufx s x = u at *
              clear hub HJ
              have n3 : oth.length + 1 ≤ maxLen := by unfold maxLen; omega
              have n4 : (oth.length + 1) * 16 ≤ 140737488355328 := by omega
              go_upto_region 23 with (at_builtin; refine wpList_append_lies _ rfl _ _ 28 rfl wo.heap.size 9 i1 (.string ⟨#[]⟩) 1 16 Try.underlying28 hi1 hz10 hz11 hz12 rfl (by decide) u12 dr.length (dr.flatMap encS) rfl ho2a ⟨wp.heap.size, 0, none⟩ 1 1 [.string x.1] rfl rfl (cell_str _ _) (by simp [Value.oneCell']) (by decide) n1 n2 (by simp; omega) _ rfl ?_; intro gg cap w5 hown' hgrow hg1 hg2; have hb5 := (hb2.alloc hb2s (.cells #[.string x.1] 9)).grown hgrow (by simp; omega) (fun i hi => hvo2 i hi); have n5 := hcell _ hb5)
              obtain ⟨ho1', hne1'⟩ := own_apart (vq := u12) (n := dr.length + 1) (cap := cap) ho1 hne1 hgrow hg1
              have hb5s := hb5.size
              have ho1a := World.ownsRow.alloc ho1' (.cells #[.string u.1] 9)
              have ho2b : OwnNames w5 wo.heap.size (.slice (some ⟨gg, 0, none⟩) (dr.length + 1) cap) (dr ++ [x]) := by
                unfold OwnNames
                simpa [List.flatMap_append, encS] using hown'
              clear hown' hgrow hg1 hg2
              go_wp2_with (at_builtin; refine wpList_append_lies _ rfl _ _ 28 rfl wo.heap.size 9 i1 (.string ⟨#[]⟩) 1 16 Try.underlying28 hi1 hz10 hz11 hz12 rfl (by decide) u11 oth.length (oth.flatMap encS) rfl ho1a ⟨w5.heap.size, 0, none⟩ 1 1 [.string u.1] rfl rfl (cell_str _ _) (by simp [Value.oneCell']) (by decide) n3 n4 (by simp; omega) _ rfl ?_; intro gh cap2 w6 hown6 hgrow6 hg3 hg4)
              obtain ⟨ho2', hne2'⟩ := own_apart (vq := u11) (n := oth.length + 1) (cap := cap2) ho2b (ne_swap hne1') hgrow6 hg3
              have hb6 := (hb5.alloc hb5s (.cells #[.string u.1] 9)).grown hgrow6 (by simp; omega) (fun i hi => hvo1 i hi)
              go_roundw
              case rel =>
                refine ⟨j, (j : Int) - 1, by omega, by go_num, by omega, oth ++ [u], by simp; omega, HO', ?_, ?_, ne_swap hne2', hb6⟩
                · unfold OwnNames
                  simpa [List.flatMap_append, encS] using hown6
                · rw [HD.out]; exact ho2'
              case measure => (simp [intOf] <;> omega)
          · obtain rfl : k = 0 := by omega
            simp only [List.drop_zero] at ho2 HO
            clear hk hb2s
            have cP := below_trans cW hb2
            have dP := below_trans dW hb2
            have hoth : IsNames wp u11 oth := ho1.is (by omega)
            have hback : IsNames wp u12 l.reverse := ho2.is (by simp; omega)
            have hsame := same_list (sufx_ren s) HR4 HO.out
            have HRR := sufx_ren s
            have e1 : orderR ⟨rn, rp, .slice aq rt'.length cq', rt', rk, ren, sufx s rev, rei, .slice av qs.length cv, qs, rat⟩ oth = orderR ⟨rn, rp, .slice aa rt.length ca, rt, rk, ren, rev, rei, .slice ab rl.length cb, rl, rat⟩ l := by
              have := order_ren HRR HB.out HR3 hsame
              simp only [orderR, this]
            have e2 : orderR ⟨rn, rp, .slice aa rt.length ca, rt, rk, ren, rev, rei, .slice ab rl.length cb, rl, rat⟩ l.reverse = orderR ⟨rn, rp, .slice aa rt.length ca, rt, rk, ren, rev, rei, .slice ab rl.length cb, rl, rat⟩ l := by
              have := order_set (s := ofList l.reverse) (s' := ofList l) (fun x => by simp [ofList]) rl
              simp only [orderR, this]
            have hfq : Fits ⟨rn, rp, .slice aq rt'.length cq', rt', rk, ren, sufx s rev, rei, .slice av qs.length cv, qs, rat⟩ := ⟨hql20, hqf6⟩
            have HE1 := Lib.hid e1
            have HE2 := Lib.hid e2
            clear e1 e2 hsame
            obtain ⟨r0, r1, r2, r3, r4, r5, r6, r7, r8⟩ := hxR _ dP
            go_wp2_with fail
            refine (Order_any ⟨rn, rp, .slice aa rt.length ca, rt, rk, ren, rev, rei, .slice ab rl.length cb, rl, rat⟩ _ l _ (h.keep (keeps_below cP)) (hs.keep (keeps_below cP)) hfit hl1).mono ?_
            obtain ⟨RES, hRES⟩ : ∃ x, orderR ⟨rn, rp, .slice aa rt.length ca, rt, rk, ren, rev, rei, .slice ab rl.length cb, rl, rat⟩ l = x := ⟨_, rfl⟩
            have E1 := HE1.out
            have E2 := HE2.out
            rw [hRES] at E1 E2 ⊢
            have HE1 := Lib.hid E1
            have HE2 := Lib.hid E2
            clear E1 E2 hRES
            obtain ⟨ro, re⟩ := RES
            dsimp only
            rintro e x1 ⟨⟨ve1, rfl, hve1⟩, a1⟩
            have bb1 := below_trans hb2 a1
            clear r0 r1 r2 r3 r4 r5 r6 r7 r8
            have q0 := hxQ _ bb1 0 _ rfl
            have q1 := hxQ _ bb1 1 _ rfl
            have q2 := hxQ _ bb1 2 _ rfl
            have q3 := hxQ _ bb1 3 _ rfl
            have q4 := hxQ _ bb1 4 _ rfl
            have q5 := hxQ _ bb1 5 _ rfl
            have q6 := hxQ _ bb1 6 _ rfl
            have q7 := hxQ _ bb1 7 _ rfl
            have q8 := hxQ _ bb1 8 _ rfl
            go_wp2_with fail
            refine (Order_any ⟨rn, rp, .slice aq rt'.length cq', rt', rk, ren, sufx s rev, rei, .slice av qs.length cv, qs, rat⟩ _ oth _ (hRq.keep (keeps_below bb1)) (hoth.keep (keeps_below a1)) hfq (by omega)).mono ?_
            rw [HE1.out]
            dsimp only
            rintro e x2 ⟨⟨ve2, rfl, hve2⟩, a2'⟩
            have bb2 := below_trans bb1 a2'
            clear q0 q1 q2 q3 q4 q5 q6 q7 q8
            obtain ⟨r0, r1, r2, r3, r4, r5, r6, r7, r8⟩ := hxR _ (below_trans dW bb2)
            go_wp2_with fail
            refine (Order_any ⟨rn, rp, .slice aa rt.length ca, rt, rk, ren, rev, rei, .slice ab rl.length cb, rl, rat⟩ _ l.reverse _ (h.keep (keeps_below (below_trans cW bb2))) (hback.keep (keeps_below (below_trans a1 a2'))) hfit (by simp; omega)).mono ?_
            rw [HE2.out]
            dsimp only
            rintro e x3 ⟨⟨ve3, rfl, hve3⟩, a3⟩
            have bb3 := below_trans bb2 a3
            clear r0 r1 r2 r3 r4 r5 r6 r7 r8
            have hne : (re != re) = false := by simp
            go_wp2_with fail
            have hC := Ints_any _ _ ro ro x3 (hve1.keep (keeps_below (below_trans a2' a3))) (hve2.keep (keeps_below a3))
            rw [decide_eq_true (rfl : ro = ro)] at hC
            refine hC.mono ?_
            rintro e x4 ⟨rfl, a4⟩
            have bb4 := below_trans bb3 a4
            go_wp2_with fail
            have hC := Ints_any _ _ ro ro x4 (hve1.keep (keeps_below (below_trans a2' (below_trans a3 a4)))) (hve3.keep (keeps_below a4))
            rw [decide_eq_true (rfl : ro = ro)] at hC
            refine hC.mono ?_
            rintro e x5 ⟨rfl, a5⟩
            have bb5 := below_trans bb4 a5
            obtain ⟨r0, r1, r2, r3, r4, r5, r6, r7, r8⟩ := hxR _ (below_trans dW bb5)
            go_wp2_with fail
            refine (Vars_any ⟨rn, rp, .slice aa rt.length ca, rt, rk, ren, rev, rei, .slice ab rl.length cb, rl, rat⟩ _ (h.keep (keeps_below (below_trans cW bb5))) hfit).mono ?_
            rintro e x6 ⟨⟨va, vb, rfl, hva, hvb⟩, a6⟩
            have bb6 := below_trans bb5 a6
            clear r0 r1 r2 r3 r4 r5 r6 r7 r8
            have q0 := hxQ _ bb6 0 _ rfl
            have q1 := hxQ _ bb6 1 _ rfl
            have q2 := hxQ _ bb6 2 _ rfl
            have q3 := hxQ _ bb6 3 _ rfl
            have q4 := hxQ _ bb6 4 _ rfl
            have q5 := hxQ _ bb6 5 _ rfl
            have q6 := hxQ _ bb6 6 _ rfl
            have q7 := hxQ _ bb6 7 _ rfl
            have q8 := hxQ _ bb6 8 _ rfl
            go_wp2_with fail
            refine (Vars_any ⟨rn, rp, .slice aq rt'.length cq', rt', rk, ren, sufx s rev, rei, .slice av qs.length cv, qs, rat⟩ _ (hRq.keep (keeps_below bb6)) hfq).mono ?_
            rintro e x7 ⟨⟨vc, vd, rfl, hvc, hvd⟩, a7⟩
            have bb7 := below_trans bb6 a7
            clear q0 q1 q2 q3 q4 q5 q6 q7 q8
            have oR := ordV_ren HRR HB.out HR3
            have lR := latV_ren HRR HB.out HR3
            rw [oR.1] at hvc
            rw [lR.1] at hvd
            have HAN := Lib.hid (fun k (hk : k < (ordV rl).length) => ordV_ne hk)
            have HBN := Lib.hid (fun k (hk : k < (latV rl).length) => latV_ne hk)
            have HAP := Lib.hid oR.2
            have HBP := Lib.hid lR.2
            clear oR lR
            generalize ordV rl = A at *
            generalize latV rl = B at *
            obtain ⟨aa', ca', hvae, hrva, hma⟩ := hva
            obtain ⟨ab', cb', hvbe, hrvb, hmb⟩ := hvb
            obtain ⟨ac', cc', hvce, hrvc, -⟩ := hvc
            obtain ⟨ad', cd', hvde, hrvd, -⟩ := hvd
            rw [List.length_map] at hvce hvde
            subst hvae hvbe hvce hvde
            go_wp2
            go_loopw [24] (fun iv wr => ∃ k : Nat, k ≤ A.length ∧ iv = .int .i64 k ∧ Below x7.heap.size x7 wr) (fun iv _ => A.length - (intOf iv).toNat)
            case atStart => exact ⟨0, by simp, rfl, Below.refl _ _⟩
            case round =>
              obtain ⟨k, hk, rfl, hb3⟩ := hrel
              obtain ⟨wz, rfl⟩ : ∃ x : World, x = wr := ⟨_, rfl⟩
              by_cases hlt : k < A.length
              · obtain ⟨ba, oa, eqa, n0⟩ := (hrva.keep (keeps_below (below_trans a7 hb3))).one (List.getElem?_eq_getElem hlt) rfl
                obtain ⟨bc, oc, eqc, n1⟩ := (hrvc.keep (keeps_below hb3)).one (show (A.map (sufx s))[k]? = some (sufx s A[k]) by simp [hlt]) rfl
                have hne := HAN.out k hlt
                have hfx := HAP.out _ (List.getElem_mem hlt)
                generalize A[k] = x at *
                subst eqa eqc
                have hj := run_join hfx hne
                have hjb : x.1.size + s.1.size ≤ 9223372036854775807 := by have := hfx; unfold fitS maxLen at this; omega
                clear hne hfx
                generalize sufx s x = u at *
                have g1 : (k : Int) < A.length := by omega
                go_upto_region 36 with fail
                go_quiet (fail)
                go_wp2
                go_roundw
                case rel => exact ⟨k + 1, by omega, by go_num, below_drewN hb3 _⟩
                case measure => simp [intOf]; omega
              · skip
                go_wp2
                go_loopw [25] (fun iv wr => ∃ k : Nat, k ≤ B.length ∧ iv = .int .i64 k ∧ Below x7.heap.size x7 wr) (fun iv _ => B.length - (intOf iv).toNat)
                case atStart => exact ⟨0, by simp, rfl, hb3⟩
                case round =>
                  obtain ⟨k2, hk2, rfl, hb3⟩ := hrel
                  obtain ⟨wz, rfl⟩ : ∃ x : World, x = wr := ⟨_, rfl⟩
                  by_cases hlt : k2 < B.length
                  · obtain ⟨ba, oa, eqa, n0⟩ := (hrvb.keep (keeps_below (below_trans a7 hb3))).one (List.getElem?_eq_getElem hlt) rfl
                    obtain ⟨bc, oc, eqc, n1⟩ := (hrvd.keep (keeps_below hb3)).one (show (B.map (sufx s))[k2]? = some (sufx s B[k2]) by simp [hlt]) rfl
                    have hne := HBN.out k2 hlt
                    have hfx := HBP.out _ (List.getElem_mem hlt)
                    generalize B[k2] = x at *
                    subst eqa eqc
                    have hj := run_join hfx hne
                    have hjb : x.1.size + s.1.size ≤ 9223372036854775807 := by have := hfx; unfold fitS maxLen at this; omega
                    clear hne hfx
                    generalize sufx s x = u at *
                    have g1 : (k2 : Int) < B.length := by omega
                    go_upto_region 41 with fail
                    go_quiet (fail)
                    go_wp2
                    go_roundw
                    case rel => exact ⟨k2 + 1, by omega, by go_num, below_drewN hb3 _⟩
                    case measure => simp [intOf]; omega
                  · skip
                    have bb8 := below_trans bb7 hb3
                    have cz := below_trans cW bb8
                    have dz := below_trans dW bb8
                    have hRr8 : RuleOk wz ⟨rn, rp, .slice aa rt.length ca, rt, rk, ren, rev, rei, .slice ab rl.length cb, rl, rat⟩ := h.keep (keeps_below cz)
                    have hRq8 : RuleOk wz ⟨rn, rp, .slice aq rt'.length cq', rt', rk, ren, sufx s rev, rei, .slice av qs.length cv, qs, rat⟩ := hRq.keep (keeps_below bb8)
                    have hsp8 : safeP ⟨rn, rp, .slice aq rt'.length cq', rt', rk, ren, sufx s rev, rei, .slice av qs.length cv, qs, rat⟩ = safeP ⟨rn, rp, .slice aa rt.length ca, rt, rk, ren, rev, rei, .slice ab rl.length cb, rl, rat⟩ := safe_ren (r := ⟨rn, rp, .slice aa rt.length ca, rt, rk, ren, rev, rei, .slice ab rl.length cb, rl, rat⟩) (r' := ⟨rn, rp, .slice aq rt'.length cq', rt', rk, ren, sufx s rev, rei, .slice av qs.length cv, qs, rat⟩) HRR HB.out HR3 HRT.out HR1 rfl rfl HR2
                    obtain ⟨LL, hLL⟩ : ∃ x, chk [⟨rn, rp, .slice aa rt.length ca, rt, rk, ren, rev, rei, .slice ab rl.length cb, rl, rat⟩] = x := ⟨_, rfl⟩
                    have HLr := Lib.hid hLL
                    have HLq := Lib.hid (show chk [⟨rn, rp, .slice aq rt'.length cq', rt', rk, ren, sufx s rev, rei, .slice av qs.length cv, qs, rat⟩] = LL by rw [← hLL]; exact chk_same hsp8 rfl)
                    clear hLL hsp8
                    have HRr : ∀ (W : World) (n : Nat), Below wz.heap.size wz W → n = W.heap.size → IsRules (W.alloc (.cells #[.string rn.1, .int .i64 rp, .slice aa rt.length ca, .int .i64 rk, .string ren.1, .string rev.1, .int .i64 rei, .slice ab rl.length cb, .int .i64 rat] 27)) (.slice (some ⟨n, 0, none⟩) 1 1) [⟨rn, rp, .slice aa rt.length ca, rt, rk, ren, rev, rei, .slice ab rl.length cb, rl, rat⟩] := fun W n hb hn => rules_new' W n [⟨rn, rp, .slice aa rt.length ca, rt, rk, ren, rev, rei, .slice ab rl.length cb, rl, rat⟩] hn (by simp) (fun x hx => by
                      have : x = ⟨rn, rp, .slice aa rt.length ca, rt, rk, ren, rev, rei, .slice ab rl.length cb, rl, rat⟩ := by simpa using hx
                      rw [this]; exact hRr8.keep (keeps_below hb))
                    have HRq : ∀ (W : World) (n : Nat), Below wz.heap.size wz W → n = W.heap.size → IsRules (W.alloc (.cells #[.string rn.1, .int .i64 rp, .slice aq rt'.length cq', .int .i64 rk, .string ren.1, .string (sufx s rev).1, .int .i64 rei, .slice av qs.length cv, .int .i64 rat] 27)) (.slice (some ⟨n, 0, none⟩) 1 1) [⟨rn, rp, .slice aq rt'.length cq', rt', rk, ren, sufx s rev, rei, .slice av qs.length cv, qs, rat⟩] := fun W n hb hn => rules_new' W n [⟨rn, rp, .slice aq rt'.length cq', rt', rk, ren, sufx s rev, rei, .slice av qs.length cv, qs, rat⟩] hn (by simp) (fun x hx => by
                      have : x = ⟨rn, rp, .slice aq rt'.length cq', rt', rk, ren, sufx s rev, rei, .slice av qs.length cv, qs, rat⟩ := by simpa using hx
                      rw [this]; exact hRq8.keep (keeps_below hb))
                    have HS : ∀ w', Below wz.heap.size wz w' → (fun w' => w'.cell? ⟨w.heap.size, 0, none⟩ = some (.string rn.1) ∧ w'.cell? ⟨w.heap.size, 1, none⟩ = some (.int .i64 rp) ∧ w'.cell? ⟨w.heap.size, 2, none⟩ = some (.slice aa rt.length ca) ∧ w'.cell? ⟨w.heap.size, 3, none⟩ = some (.int .i64 rk) ∧ w'.cell? ⟨w.heap.size, 4, none⟩ = some (.string ren.1) ∧ w'.cell? ⟨w.heap.size, 5, none⟩ = some (.string rev.1) ∧ w'.cell? ⟨w.heap.size, 6, none⟩ = some (.int .i64 rei) ∧ w'.cell? ⟨w.heap.size, 7, none⟩ = some (.slice ab rl.length cb) ∧ w'.cell? ⟨w.heap.size, 8, none⟩ = some (.int .i64 rat) ∧ w'.cell? ⟨w3.heap.size, 0, none⟩ = some (.string rn.1) ∧ w'.cell? ⟨w3.heap.size, 1, none⟩ = some (.int .i64 rp) ∧ w'.cell? ⟨w3.heap.size, 2, none⟩ = some (.slice aq rt'.length cq') ∧ w'.cell? ⟨w3.heap.size, 3, none⟩ = some (.int .i64 rk) ∧ w'.cell? ⟨w3.heap.size, 4, none⟩ = some (.string ren.1) ∧ w'.cell? ⟨w3.heap.size, 5, none⟩ = some (.string (sufx s rev).1) ∧ w'.cell? ⟨w3.heap.size, 6, none⟩ = some (.int .i64 rei) ∧ w'.cell? ⟨w3.heap.size, 7, none⟩ = some (.slice av qs.length cv) ∧ w'.cell? ⟨w3.heap.size, 8, none⟩ = some (.int .i64 rat)) w' := by
                      intro w' hb'
                      obtain ⟨r0, r1, r2, r3, r4, r5, r6, r7, r8⟩ := hxR _ (below_trans dz hb')
                      have hx := fun j u e => hxQ _ (below_trans bb8 hb') j u e
                      exact ⟨r0, r1, r2, r3, r4, r5, r6, r7, r8, hx 0 _ rfl, hx 1 _ rfl, hx 2 _ rfl, hx 3 _ rfl, hx 4 _ rfl, hx 5 _ rfl, hx 6 _ rfl, hx 7 _ rfl, hx 8 _ rfl⟩
                    dsimp only at HS
                    clear HR1 HR2 HR3 HR4 HRT HB HAN HBN HAP HBP hxQ hxR hbox HE1 HE2
                    clear hC hne hz hz0 hne1 ho1 ho2 HO hoth hback hRq hlits hok hterms hvt7 hq7 hq0 hrva hrvb hrvc hrvd hve1 hve2 hve3 hlr hlm hma hmb
                    go_upto_region 43 with fail
                    rename_i Q9 K9 a9 K8 a8
                    clear a9
                    go_region_held3 (fun w' => w'.cell? ⟨w.heap.size, 0, none⟩ = some (.string rn.1) ∧ w'.cell? ⟨w.heap.size, 1, none⟩ = some (.int .i64 rp) ∧ w'.cell? ⟨w.heap.size, 2, none⟩ = some (.slice aa rt.length ca) ∧ w'.cell? ⟨w.heap.size, 3, none⟩ = some (.int .i64 rk) ∧ w'.cell? ⟨w.heap.size, 4, none⟩ = some (.string ren.1) ∧ w'.cell? ⟨w.heap.size, 5, none⟩ = some (.string rev.1) ∧ w'.cell? ⟨w.heap.size, 6, none⟩ = some (.int .i64 rei) ∧ w'.cell? ⟨w.heap.size, 7, none⟩ = some (.slice ab rl.length cb) ∧ w'.cell? ⟨w.heap.size, 8, none⟩ = some (.int .i64 rat) ∧ w'.cell? ⟨w3.heap.size, 0, none⟩ = some (.string rn.1) ∧ w'.cell? ⟨w3.heap.size, 1, none⟩ = some (.int .i64 rp) ∧ w'.cell? ⟨w3.heap.size, 2, none⟩ = some (.slice aq rt'.length cq') ∧ w'.cell? ⟨w3.heap.size, 3, none⟩ = some (.int .i64 rk) ∧ w'.cell? ⟨w3.heap.size, 4, none⟩ = some (.string ren.1) ∧ w'.cell? ⟨w3.heap.size, 5, none⟩ = some (.string (sufx s rev).1) ∧ w'.cell? ⟨w3.heap.size, 6, none⟩ = some (.int .i64 rei) ∧ w'.cell? ⟨w3.heap.size, 7, none⟩ = some (.slice av qs.length cv) ∧ w'.cell? ⟨w3.heap.size, 8, none⟩ = some (.int .i64 rat))
                      (first | exact HS _ (by with_reducible (repeat (first | assumption | exact Below.refl _ _ | refine below_alloc' ?_ | refine below_drew' ?_ | refine below_step (by assumption) ?_))))
                      (first
                        | (go_at_call 22; refine ckD_ts (L := LL) (by with_reducible (repeat (first | (refine HRr _ _ (by with_reducible (repeat (first | assumption | exact Below.refl _ _ | refine below_alloc' ?_ | refine below_drew' ?_ | refine below_step (by assumption) ?_))) ?_; simp <;> contradiction) | (refine HRq _ _ (by with_reducible (repeat (first | assumption | exact Below.refl _ _ | refine below_alloc' ?_ | refine below_drew' ?_ | refine below_step (by assumption) ?_))) ?_; simp <;> contradiction) | apply rules_alloc | apply rules_drew | (apply rules_step; assumption)))) ?_ ?_ ?_; (first | exact hfit | exact hfq); (first | exact HLr | exact HLq); intro vD wD hD bD)
                        | (go_at_call 21; refine dg_ts (L := LL) (by with_reducible (repeat (first | assumption | apply diags_alloc | apply diags_drew | (apply diags_step; assumption)))) (by with_reducible (repeat (first | assumption | apply diags_alloc | apply diags_drew | (apply diags_step; assumption)))) ?_; intro wH bH))
                    all_goals
                      go_wp2
                      go_ret
                      exact ⟨rfl, below_trans cz (by with_reducible (repeat (first | assumption | exact Below.refl _ _ | refine below_alloc' ?_ | refine below_drew' ?_ | refine below_step (by assumption) ?_)))⟩
end Go.Proofs.Ytnibgmmoebmnlaa
