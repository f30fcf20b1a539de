/- The walk of the given program's Evaluable. -/
import Derived.Test.YtnibgmmoebmnlaaWh
namespace Go.Proofs.Ytnibgmmoebmnlaa
open Go.RowKit
theorem lits_cells {w : World} {b off : Nat} {l : List Lt} (h : RowsAt 9 encL w (some ⟨b, off, none⟩) l) {i : Nat} {t : Lt} (hi : l[i]? = some t) :
    w.cell? ⟨b, off + i * 9, none⟩ = some (.int .i64 t.kind) ∧ w.cell? ⟨b, off + i * 9 + 1, none⟩ = some (.string t.name.1) ∧ w.cell? ⟨b, off + i * 9 + 2, none⟩ = some (.int .i64 t.pred) ∧ w.cell? ⟨b, off + i * 9 + 3, none⟩ = some t.args
      ∧ w.cell? ⟨b, off + i * 9 + 4, none⟩ = some (.string t.bind.1) ∧ w.cell? ⟨b, off + i * 9 + 5, none⟩ = some (.string t.elem.1) ∧ w.cell? ⟨b, off + i * 9 + 6, none⟩ = some (.int .i64 t.least) ∧ w.cell? ⟨b, off + i * 9 + 7, none⟩ = some (.int .i64 t.op) ∧ w.cell? ⟨b, off + i * 9 + 8, none⟩ = some (.int .i64 t.at_) := by
  obtain ⟨b', off', he, c⟩ := lits_at h hi
  simp only [Option.some.injEq, Addr.mk.injEq] at he
  obtain ⟨rfl, rfl, -⟩ := he
  exact c
def stepOk (s : Nm → Bool) (body : List Lt) (done : List Nat) (i : Int) : Bool := decide (0 ≤ i) && cand s body done i.toNat
def evalGo (s : Nm → Bool) (body : List Lt) : List Nat → List Int → Bool
  | _, [] => true
  | done, i :: r => stepOk s body done i && evalGo s body (done ++ [i.toNat]) r
def evaluable (s : Nm → Bool) (body : List Lt) (ord : List Int) : Bool := decide (ord.length = body.length) && evalGo s body [] ord
theorem evalGo_at {s : Nm → Bool} {body : List Lt} {done : List Nat} {ord : List Int} {k : Nat} (hk : k < ord.length) : evalGo s body done (ord.drop k) = (stepOk s body done ord[k] && evalGo s body (done ++ [ord[k].toNat]) (ord.drop (k + 1))) := by
  rw [List.drop_eq_getElem_cons hk]; rfl
theorem stepOk_neg {s : Nm → Bool} {body : List Lt} {done : List Nat} {i : Int} (h : i < 0) : stepOk s body done i = false := by
  simp [stepOk]; omega
theorem stepOk_big {s : Nm → Bool} {body : List Lt} {done : List Nat} {j : Nat} (h : body.length ≤ j) : stepOk s body done (j : Int) = false := by
  simp [stepOk, cand, List.getElem?_eq_none h]
theorem stepOk_nat {s : Nm → Bool} {body : List Lt} {done : List Nat} {j : Nat} : stepOk s body done (j : Int) = cand s body done j := by
  simp [stepOk]
set_option maxHeartbeats 4000000 in
set_option maxRecDepth 100000 in
theorem Evaluable_any (r : Rl) (v : Value) (l : List Nm) (vo : Value) (ord : List Int) (w : World) (h : RuleOk w r) (hs : IsNames w v l) (ho : IsInts w vo ord) (hf : Fits r) (hl : l.length ≤ 1000) :
    Calls Try.prog 19 #[ruleV r, v, vo] w fun e w' => e = .returned (.bool (evaluable (ofList l) r.lits ord)) ∧ Below w.heap.size w w' := by
  obtain ⟨i0, hi, hz0, hz1, hz2⟩ := info_parts info4'
  obtain ⟨-, ⟨ab, cb, hb, hlits, hmb⟩, hok⟩ := h
  obtain ⟨hf1, hf2⟩ := hf
  obtain ⟨ao, co, rfl, ho, hmo⟩ := ho
  obtain ⟨R, hR⟩ : ∃ R, evaluable (ofList l) r.lits ord = R := ⟨_, rfl⟩
  have HR := Lib.hid hR
  rw [hR]
  clear hR
  obtain ⟨rn, rp, ra, rt, rk, ren, rev, rei, rb, rl, rat⟩ := r
  dsimp only at *
  subst hb
  unfold ruleV
  obtain ⟨wb, hwb⟩ : ∃ x : World, x = w.alloc (.cells #[.string rn.1, .int .i64 rp, ra, .int .i64 rk, .string ren.1, .string rev.1, .int .i64 rei, .slice ab rl.length cb, .int .i64 rat] 27) := ⟨_, rfl⟩
  have b0 : Below w.heap.size w wb := by subst hwb; exact (Below.refl _ _).alloc (Nat.le_refl _) _
  have hbs : wb.heap.size = w.heap.size + 1 := by subst hwb; simp
  have hx7 : ∀ w', Below wb.heap.size wb w' → w'.cell? ⟨w.heap.size, 7, none⟩ = some (.slice ab rl.length cb) := by subst hwb; exact fun w' hb => boxed (j := 7) rfl hb
  by_cases hlen : ord.length = rl.length
  case neg =>
    have HF := Lib.hid (show R = false by rw [← HR.out]; simp [evaluable, hlen])
    have hne : ((ord.length : Int) != (rl.length : Int)) = true := by rw [bne_iff_ne]; omega
    go_enter Try.func19, Try.ntmps19
    go_wp2
    go_ret
    exact ⟨ret_bool HF.out.symm, by rw [← hwb]; exact b0⟩
  have HE := Lib.hid (show R = evalGo (ofList l) rl [] (ord.drop 0) by rw [← HR.out]; simp [evaluable, hlen])
  have hne : ((ord.length : Int) != (rl.length : Int)) = false := by rw [bne_eq_false_iff_eq]; omega
  have hle1 : ord.length ≤ rl.length := by omega
  have hle2 : rl.length ≤ ord.length := by omega
  clear hlen HR
  go_enter Try.func19, Try.ntmps19
  go_wp2_with fail
  rw [← hwb]
  clear hwb
  refine (of_any v l _ (hs.keep (keeps_below b0))).mono ?_
  rintro e w1 ⟨m, rfl, hm, hset, b1⟩
  have x7 := hx7 _ b1
  have s1 := b1.size
  have hml := hset.lt
  go_wp2_with (at_make; refine wpList_make_full _ rfl _ _ 54 rfl w1.heap.size 4 i0 (.bool false) 1 Try.underlying54 hi hz0 hz1 .i64 .i64 (ord.length : Int) (ord.length : Int) ord.length rfl rfl rfl rfl (by rw [hz2]; omega) (by unfold maxLen; omega) (Nat.le_refl _) ?_; intro w2 hmade hgm)
  have hdone := Bools.made hmade
  have hdl := hdone.lt
  have b2 : Below wb.heap.size wb w2 := b1.grown hgm s1 (by simp)
  have hset2 := hset.kept hgm (by simp)
  clear hset hmade x7
  go_wp2
  go_loopw [24] (fun iv wr => ∃ k : Nat, k ≤ ord.length ∧ iv = .int .i64 k ∧ ∃ done : List Nat, SetAt wr m (l.length + 6 * k) (aft (ofList l) rl done) ∧ Bools wr w1.heap.size ord.length (fun j => decide (j ∈ done)) ∧ Hid (R = evalGo (ofList l) rl done (ord.drop k)) ∧ Below wb.heap.size wb wr) (fun iv _ => ord.length - (intOf iv).toNat)
  case atStart => exact ⟨0, by simp, rfl, [], hset2, hdone.congr (fun k _ => by simp), HE, b2⟩
  case round =>
    obtain ⟨k, hk, rfl, done, hset, hdn, HG, hb⟩ := hrel
    have x7 := hx7 _ hb
    have hbs' := hb.size
    have hdnl := hdn.lt
    have hbw := below_trans b0 hb
    by_cases hlt : k < ord.length
    · obtain ⟨bo, oo, rfl, co'⟩ := (ho.keep (keeps_below hbw)).one (List.getElem?_eq_getElem hlt) rfl
      have HG' := Lib.hid (show R = (stepOk (ofList l) rl done ord[k] && evalGo (ofList l) rl (done ++ [ord[k].toNat]) (ord.drop (k + 1))) by rw [HG.out, evalGo_at hlt])
      generalize ord[k] = i at *
      by_cases hneg : i < 0
      · have HF := Lib.hid (show R = false by rw [HG'.out, stepOk_neg hneg]; rfl)
        go_wp2
        go_ret
        exact ⟨ret_bool HF.out.symm, hbw⟩
      · obtain ⟨j, rfl⟩ := Int.eq_ofNat_of_zero_le (Int.not_lt.1 hneg)
        clear hneg
        rw [stepOk_nat, show ((j : Int)).toNat = j from rfl] at HG'
        by_cases hbig : ord.length ≤ j
        · have HF := Lib.hid (show R = false by rw [HG'.out, ← stepOk_nat, stepOk_big (by omega)]; rfl)
          go_wp2
          go_ret
          exact ⟨ret_bool HF.out.symm, hbw⟩
        · have hj : j < rl.length := by omega
          have hjo : j < ord.length := by omega
          obtain ⟨b', off, rfl, c0, c1, c2, c3, c4, c5, c6, c7, c8⟩ := lits_at (hlits.keep (keeps_below hbw)) (List.getElem?_eq_getElem hj)
          have HCS := fun w' (bb : Below w.heap.size w w') => lits_cells (hlits.keep (keeps_below bb)) (List.getElem?_eq_getElem hj)
          have hq := hok rl[j] (List.getElem_mem hj)
          have hq6 := hf2 rl[j] (List.getElem_mem hj)
          have HC := Lib.hid (cand_at (ofList l) rl done j hj)
          have HA := Lib.hid (aft_snoc (ofList l) rl done j hj)
          have cd := hdn.cell hjo
          generalize rl[j] = q at *
          obtain ⟨pa, pc, hqa, -, hqm⟩ := id hq
          obtain ⟨qk, qn, qp, qa, qt, qb, qe, ql, qo, qat⟩ := q
          dsimp only at *
          subst hqa
          by_cases hin : j ∈ done
          · rw [decide_eq_true hin] at cd
            have HF := Lib.hid (show R = false by rw [HG'.out, HC.out, decide_eq_true hin]; rfl)
            go_wp2
            go_ret
            exact ⟨ret_bool HF.out.symm, hbw⟩
          · rw [decide_eq_false hin] at cd
            have HC' := Lib.hid (show R = (ready (aft (ofList l) rl done) ⟨qk, qn, qp, .slice pa qt.length pc, qt, qb, qe, ql, qo, qat⟩ && evalGo (ofList l) rl (done ++ [j]) (ord.drop (k + 1))) by rw [HG'.out, HC.out, decide_eq_false hin]; rfl)
            clear hin
            go_wp2_with fail
            refine (ready_any m _ _ ⟨qk, qn, qp, .slice pa qt.length pc, qt, qb, qe, ql, qo, qat⟩ _ hset (hq.keep (keeps_below hbw))).mono ?_
            rintro e w4 ⟨rfl, b4⟩
            have b4' := b4.size
            cases hr : ready (aft (ofList l) rl done) ⟨qk, qn, qp, .slice pa qt.length pc, qt, qb, qe, ql, qo, qat⟩
            · have HF := Lib.hid (show R = false by rw [HC'.out, hr]; rfl)
              go_wp2
              go_ret
              exact ⟨ret_bool HF.out.symm, below_trans hbw b4⟩
            · have HT := Lib.hid (show R = evalGo (ofList l) rl (done ++ [j]) (ord.drop (k + 1)) by rw [HC'.out, hr]; rfl)
              have hd4 := hdn.keep b4
              have hs4 := hset.keep b4
              have hb4 := hb.trans (b4.mono hbs')
              clear cd c0 c1 c2 c3 c4 c5 c6 c7 c8 x7 co'
              have cd := hd4.cell hjo
              have fd := hd4.frozen j
              have g6 := grown_setCell w4 ⟨w1.heap.size, j, none⟩ (.bool true)
              have hs6 := hs4.setCell (a := ⟨w1.heap.size, j, none⟩) (by simp; omega) (.bool true)
              have hd6 := (hd4.set j true).congr (g := fun i => decide (i ∈ done ++ [j])) (fun i _ => by by_cases e : i = j <;> simp [e])
              have hb6 := hb4.grown g6 (by omega) (by simp; omega)
              have x7 := hx7 _ hb6
              have hbw6 := below_trans b0 hb6
              obtain ⟨c0, c1, c2, c3, c4, c5, c6, c7, c8⟩ := HCS _ hbw6
              clear HCS
              go_wp2_with fail
              refine (add_any m _ _ ⟨qk, qn, qp, .slice pa qt.length pc, qt, qb, qe, ql, qo, qat⟩ _ hs6 (hq.keep (keeps_below hbw6)) (by dsimp only; omega)).mono ?_
              rintro e w5 ⟨rfl, hset5, g5⟩
              have hd5 := hd6.kept g5 (by simp; omega)
              have g6s := g6.size
              have hb5 := hb6.grown g5 (by omega) (by simp; omega)
              clear c0 c1 c2 c3 c4 c5 c6 c7 c8 cd fd x7
              dsimp only at hset5
              go_wp2
              go_roundw
              case rel => exact ⟨k + 1, by omega, by go_num, done ++ [j], (hset5.mono (by omega)).congr (fun x => by rw [HA.out]), hd5, HT, hb5⟩
              case measure => simp [intOf]; omega
    · have e : k = ord.length := by omega
      have HF := Lib.hid (show R = true by rw [HG.out, e, List.drop_length]; rfl)
      have hd : ¬ ord.length < ord.length := by omega
      go_wp2
      go_ret
      exact ⟨ret_bool HF.out.symm, hbw⟩
end Go.Proofs.Ytnibgmmoebmnlaa
