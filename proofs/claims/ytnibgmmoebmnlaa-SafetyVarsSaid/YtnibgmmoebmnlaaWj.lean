/- The walk of the reference's Evaluable. -/
import Derived.Test.YtnibgmmoebmnlaaWi
namespace Go.Proofs.Ytnibgmmoebmnlaa
open Go.RowKit
theorem ofList_addN (l : List Nm) (x y : Nm) : ofList (addN l x) y = (ofList l y || (decide (y ≠ noName) && decide (x = y))) := by
  unfold ofList addN
  by_cases h1 : x = noName
  · by_cases h2 : x = y
    · subst h2; simp [h1]
    · simp [h1, show ¬ noName = y from h1 ▸ h2]
  · by_cases h3 : x ∈ l
    · by_cases h2 : x = y
      · subst h2; simp [h3]
      · simp [h3, h2]
    · by_cases h2 : x = y
      · subst h2; simp [h1, h3]
      · have : ¬ y = x := fun e => h2 e.symm
        simp [h1, h3, h2, this]
theorem ofList_bindN (ts : List Tm) : ∀ (l : List Nm), ofList (bindN l ts) = addAll (ofList l) ts := by
  induction ts with
  | nil => intro l; funext y; simp [bindN, addAll]
  | cons t r ih =>
    intro l
    have : bindN l (t :: r) = bindN (addN l t.var) r := rfl
    rw [this, ih]
    funext y
    unfold addAll
    rw [ofList_addN]
    cases ofList l y <;> cases decide (y ≠ noName) <;> simp
theorem own_lt {w : World} {base : Nat} {v : Value} {l : List Nm} (h : OwnNames w base v l) : ∀ k, v.ownBlock = some k → k < w.heap.size := fun k hk => (h.lt k hk).2
theorem OwnNames.alloc {w : World} {base : Nat} {v : Value} {l : List Nm} (h : OwnNames w base v l) (o : Obj) : OwnNames (w.alloc o) base v l := World.ownsRow.alloc h o
set_option maxHeartbeats 4000000 in
set_option maxRecDepth 100000 in
theorem rEvaluable_any (r : Rl) (v : Value) (l : List Nm) (vo : Value) (ord : List Int) (w : World) (h : RuleOk w r) (hs : IsNames w v l) (ho : IsInts w vo ord) (hf : Fits r) (hl : l.length ≤ 1000) :
    Calls Try.prog 20 #[ruleV r, v, vo] w fun e w' => e = .returned (.bool (evaluable (ofList l) r.lits ord)) ∧ Below w.heap.size w w' := by
  obtain ⟨i0, hi, hz0, hz1, hz2⟩ := info_parts info4'
  obtain ⟨-, ⟨ab, cb, hb, hlits, hmb⟩, hok⟩ := h
  obtain ⟨hf1, hf2⟩ := hf
  obtain ⟨ao, co, rfl, ho, hmo⟩ := ho
  obtain ⟨R, hR⟩ : ∃ R, evaluable (ofList l) r.lits ord = R := ⟨_, rfl⟩
  have HR := Lib.hid hR
  rw [hR]
  clear hR
  obtain ⟨rn, rp, ra, rt, rk, ren, rev, rei, rb, rl, rat⟩ := r
  dsimp only at *
  subst hb
  unfold ruleV
  obtain ⟨wb, hwb⟩ : ∃ x : World, x = w.alloc (.cells #[.string rn.1, .int .i64 rp, ra, .int .i64 rk, .string ren.1, .string rev.1, .int .i64 rei, .slice ab rl.length cb, .int .i64 rat] 27) := ⟨_, rfl⟩
  have b0 : Below w.heap.size w wb := by subst hwb; exact (Below.refl _ _).alloc (Nat.le_refl _) _
  have hbs : wb.heap.size = w.heap.size + 1 := by subst hwb; simp
  have hx7 : ∀ w', Below wb.heap.size wb w' → w'.cell? ⟨w.heap.size, 7, none⟩ = some (.slice ab rl.length cb) := by subst hwb; exact fun w' hb => boxed (j := 7) rfl hb
  by_cases hlen : ord.length = rl.length
  case neg =>
    have HF := Lib.hid (show R = false by rw [← HR.out]; simp [evaluable, hlen])
    have hne : ((ord.length : Int) != (rl.length : Int)) = true := by rw [bne_iff_ne]; omega
    go_enter Try.func20, Try.ntmps20
    go_wp2
    go_ret
    exact ⟨ret_bool HF.out.symm, by rw [← hwb]; exact b0⟩
  have HE := Lib.hid (show R = evalGo (ofList l) rl [] (ord.drop 0) by rw [← HR.out]; simp [evaluable, hlen])
  have hne : ((ord.length : Int) != (rl.length : Int)) = false := by rw [bne_eq_false_iff_eq]; omega
  have hle1 : ord.length ≤ rl.length := by omega
  have hle2 : rl.length ≤ ord.length := by omega
  clear hlen HR
  go_enter Try.func20, Try.ntmps20
  go_wp2_with fail
  rw [← hwb]
  clear hwb
  refine (copied_any v l _ (hs.keep (keeps_below b0)) (by omega)).mono ?_
  rintro e w1 ⟨vn, rfl, hset, b1⟩
  have x7 := hx7 _ b1
  have s1 := b1.size
  have hml := own_lt hset
  go_wp2_with (at_make; refine wpList_make_full _ rfl _ _ 54 rfl w1.heap.size 4 i0 (.bool false) 1 Try.underlying54 hi hz0 hz1 .i64 .i64 (rl.length : Int) (rl.length : Int) rl.length rfl rfl rfl rfl (by rw [hz2]; omega) (by unfold maxLen; omega) (Nat.le_refl _) ?_; intro w2 hmade hgm)
  have hdone := Bools.made hmade
  have hdl := hdone.lt
  have b2 : Below wb.heap.size wb w2 := b1.grown hgm s1 (by simp)
  have hset2 : OwnNames w2 wb.heap.size vn l := World.ownsRow.kept hset hgm (by cases vn.ownBlock <;> simp)
  clear hset hmade x7
  go_wp2
  go_loopw [7, 9] (fun vn iv wr => ∃ k : Nat, k ≤ ord.length ∧ iv = .int .i64 k ∧ ∃ (done : List Nat) (nl : List Nm), nl.length ≤ l.length + 6 * k ∧ Hid (ofList nl = aft (ofList l) rl done) ∧ OwnNames wr wb.heap.size vn nl ∧ vn.ownBlock ≠ some w1.heap.size ∧ Bools wr w1.heap.size rl.length (fun j => decide (j ∈ done)) ∧ Hid (R = evalGo (ofList l) rl done (ord.drop k)) ∧ Below wb.heap.size wb wr) (fun _ iv _ => ord.length - (intOf iv).toNat)
  case atStart => exact ⟨0, by simp, rfl, [], l, by omega, Lib.hid rfl, hset2, fun e => by have := hml _ e; omega, hdone.congr (fun k _ => by simp), HE, b2⟩
  case round =>
    obtain ⟨k, hk, rfl, done, nl, hnl, HS, hset, hvd, hdn, HG, hb⟩ := hrel
    have x7 := hx7 _ hb
    have hbs' := hb.size
    have hdnl := hdn.lt
    have hbw := below_trans b0 hb
    by_cases hlt : k < ord.length
    · obtain ⟨bo, oo, rfl, co'⟩ := (ho.keep (keeps_below hbw)).one (List.getElem?_eq_getElem hlt) rfl
      have HG' := Lib.hid (show R = (stepOk (ofList l) rl done ord[k] && evalGo (ofList l) rl (done ++ [ord[k].toNat]) (ord.drop (k + 1))) by rw [HG.out, evalGo_at hlt])
      generalize ord[k] = i at *
      by_cases hneg : i < 0
      · have HF := Lib.hid (show R = false by rw [HG'.out, stepOk_neg hneg]; rfl)
        go_wp2
        go_ret
        exact ⟨ret_bool HF.out.symm, hbw⟩
      · obtain ⟨j, rfl⟩ := Int.eq_ofNat_of_zero_le (Int.not_lt.1 hneg)
        clear hneg
        rw [stepOk_nat, show ((j : Int)).toNat = j from rfl] at HG'
        by_cases hbig : rl.length ≤ j
        · have HF := Lib.hid (show R = false by rw [HG'.out, ← stepOk_nat, stepOk_big (by omega)]; rfl)
          go_wp2
          go_ret
          exact ⟨ret_bool HF.out.symm, hbw⟩
        · have hj : j < rl.length := by omega
          have hjo : j < ord.length := by omega
          obtain ⟨b', off, rfl, c0, c1, c2, c3, c4, c5, c6, c7, c8⟩ := lits_at (hlits.keep (keeps_below hbw)) (List.getElem?_eq_getElem hj)
          have HCS := fun w' (bb : Below w.heap.size w w') => lits_cells (hlits.keep (keeps_below bb)) (List.getElem?_eq_getElem hj)
          have hq := hok rl[j] (List.getElem_mem hj)
          have hq6 := hf2 rl[j] (List.getElem_mem hj)
          have HC := Lib.hid (cand_at (ofList l) rl done j hj)
          have HA := Lib.hid (aft_snoc (ofList l) rl done j hj)
          have cd := hdn.cell hj
          generalize rl[j] = q at *
          obtain ⟨pa, pc, hqa, -, hqm⟩ := id hq
          obtain ⟨qk, qn, qp, qa, qt, qb, qe, ql, qo, qat⟩ := q
          dsimp only at *
          subst hqa
          by_cases hin : j ∈ done
          · rw [decide_eq_true hin] at cd
            have HF := Lib.hid (show R = false by rw [HG'.out, HC.out, decide_eq_true hin]; rfl)
            go_wp2
            go_ret
            exact ⟨ret_bool HF.out.symm, hbw⟩
          · rw [decide_eq_false hin] at cd
            have HC' := Lib.hid (show R = (ready (aft (ofList l) rl done) ⟨qk, qn, qp, .slice pa qt.length pc, qt, qb, qe, ql, qo, qat⟩ && evalGo (ofList l) rl (done ++ [j]) (ord.drop (k + 1))) by rw [HG'.out, HC.out, decide_eq_false hin]; rfl)
            clear hin
            go_wp2_with fail
            refine (Ready_any _ nl ⟨qk, qn, qp, .slice pa qt.length pc, qt, qb, qe, ql, qo, qat⟩ _ (hset.is (by omega)) (hq.keep (keeps_below hbw))).mono ?_
            rw [HS.out]
            rintro e w4 ⟨rfl, b4⟩
            have b4' := b4.size
            cases hr : ready (aft (ofList l) rl done) ⟨qk, qn, qp, .slice pa qt.length pc, qt, qb, qe, ql, qo, qat⟩
            · have HF := Lib.hid (show R = false by rw [HC'.out, hr]; rfl)
              go_wp2
              go_ret
              exact ⟨ret_bool HF.out.symm, below_trans hbw b4⟩
            · have HT := Lib.hid (show R = evalGo (ofList l) rl (done ++ [j]) (ord.drop (k + 1)) by rw [HC'.out, hr]; rfl)
              have hd4 := hdn.keep b4
              have hs4 := hset.keep b4
              have hb4 := hb.trans (b4.mono hbs')
              clear cd c0 c1 c2 c3 c4 c5 c6 c7 c8 x7 co'
              have cd := hd4.cell hj
              have fd := hd4.frozen j
              have g6 := grown_setCell w4 ⟨w1.heap.size, j, none⟩ (.bool true)
              have hs6 : OwnNames (w4.setCell ⟨w1.heap.size, j, none⟩ (.bool true)) wb.heap.size u7 nl := World.ownsRow.kept hs4 g6 (Or.inr hvd)
              have hd6 := (hd4.set j true).congr (g := fun i => decide (i ∈ done ++ [j])) (fun i _ => by by_cases e : i = j <;> simp [e])
              have hb6 := hb4.grown g6 (by omega) (by simp; omega)
              have x7 := hx7 _ hb6
              have hbw6 := below_trans b0 hb6
              obtain ⟨c0, c1, c2, c3, c4, c5, c6, c7, c8⟩ := HCS _ hbw6
              clear HCS
              go_wp2_with fail
              refine (Bind_any wb _ nl ⟨qk, qn, qp, .slice pa qt.length pc, qt, qb, qe, ql, qo, qat⟩ _ hs6 (hq.keep (keeps_below b0)) hb6 (by dsimp only; omega)).mono ?_
              rintro e w5 ⟨v', rfl, hset5, g5, hmv⟩
              have hd5 := hd6.kept g5 (fun e => hvd e.symm)
              have g6s := g6.size
              have hb5 := hb6.grown g5 (by omega) (own_from hs6)
              have hvd5 : v'.ownBlock ≠ some w1.heap.size := by
                rcases hmv with hmv | hmv
                · rw [hmv]; exact hvd
                · intro e; have := hmv _ e; simp at this; omega
              have hle5 := bindN_le nl qt
              clear c0 c1 c2 c3 c4 c5 c6 c7 c8 cd fd x7
              dsimp only at hset5
              go_wp2
              go_roundw
              case rel => exact ⟨k + 1, by omega, by go_num, done ++ [j], bindN nl qt, by omega, Lib.hid (by rw [ofList_bindN, HS.out, HA.out]), hset5, hvd5, hd5, HT, hb5⟩
              case measure => simp [intOf]; omega
    · have e : k = ord.length := by omega
      have HF := Lib.hid (show R = true by rw [HG.out, e, List.drop_length]; rfl)
      have hd : ¬ ord.length < ord.length := by omega
      go_wp2
      go_ret
      exact ⟨ret_bool HF.out.symm, hbw⟩
end Go.Proofs.Ytnibgmmoebmnlaa
