/- The walks of safe, in the given program and in the reference. -/
import Derived.Test.YtnibgmmoebmnlaaWm
import Derived.Deep.RegionWith
namespace Go.Proofs.Ytnibgmmoebmnlaa
open Go.RowKit
def elemOk (r : Rl) : Bool := decide (r.ekind ≠ 2) && decide (r.ekind ≠ 3) || decide (r.evar ∈ latV r.lits)
def safeP (r : Rl) : Bool := (order (ofList []) r.lits).isSome && (!(r.targs.any (lacks (ofList (ordV r.lits)))) && elemOk r)
def ruleCells (r : Rl) : Array Value := #[.string r.name.1, .int .i64 r.pred, r.args, .int .i64 r.ekind, .string r.ename.1, .string r.evar.1, .int .i64 r.eindex, r.body, .int .i64 r.at_]
/-- The box of a rule, in a later world. -/
theorem ruleBox_at {w w' : World} {r : Rl} (hb : Below (w.alloc (.cells (ruleCells r) 27)).heap.size (w.alloc (.cells (ruleCells r) 27)) w') :
    w'.cell? ⟨w.heap.size, 0, none⟩ = some (.string r.name.1) ∧ w'.cell? ⟨w.heap.size, 1, none⟩ = some (.int .i64 r.pred) ∧ w'.cell? ⟨w.heap.size, 2, none⟩ = some r.args ∧ w'.cell? ⟨w.heap.size, 3, none⟩ = some (.int .i64 r.ekind) ∧
    w'.cell? ⟨w.heap.size, 4, none⟩ = some (.string r.ename.1) ∧ w'.cell? ⟨w.heap.size, 5, none⟩ = some (.string r.evar.1) ∧ w'.cell? ⟨w.heap.size, 6, none⟩ = some (.int .i64 r.eindex) ∧ w'.cell? ⟨w.heap.size, 7, none⟩ = some r.body ∧ w'.cell? ⟨w.heap.size, 8, none⟩ = some (.int .i64 r.at_) :=
  ⟨boxed (j := 0) rfl hb, boxed (j := 1) rfl hb, boxed (j := 2) rfl hb, boxed (j := 3) rfl hb, boxed (j := 4) rfl hb, boxed (j := 5) rfl hb, boxed (j := 6) rfl hb, boxed (j := 7) rfl hb, boxed (j := 8) rfl hb⟩
theorem nil_names (w : World) : IsNames w (.slice none 0 0) [] := ⟨none, 0, rfl, .inl rfl, by simp⟩
set_option maxHeartbeats 4000000 in
set_option maxRecDepth 100000 in
theorem safe_any (r : Rl) (w : World) (h : RuleOk w r) (hf : Fits r) :
    Calls Try.prog 44 #[ruleV r] w fun e w' => e = .returned (.bool (safeP r)) ∧ Below w.heap.size w w' := by
  have b0 : Below w.heap.size w (w.alloc (.cells (ruleCells r) 27)) := (Below.refl _ _).alloc (Nat.le_refl _) _
  have hx := fun w' (hb : Below (w.alloc (.cells (ruleCells r) 27)).heap.size (w.alloc (.cells (ruleCells r) 27)) w') => ruleBox_at hb
  unfold ruleCells at hx b0
  unfold ruleV
  go_enter Try.func44, Try.ntmps44
  go_wp2_with fail
  refine (Order_any r _ [] _ (h.keep (keeps_below b0)) (nil_names _) hf (by simp)).mono ?_
  rintro e w1 ⟨⟨ve, rfl, -⟩, b1⟩
  have hb1 := below_trans b0 b1
  obtain ⟨x0, x1, x2, x3, x4, x5, x6, x7, x8⟩ := hx _ b1
  cases ho : order (ofList []) r.lits with
  | none =>
    have hc : (orderR r []).2 = 80 := by simp [orderR, ho]
    have HS := Lib.hid (show safeP r = false by simp [safeP, ho])
    clear ho
    go_wp2
    go_ret
    exact ⟨ret_bool HS.out.symm, hb1⟩
  | some out =>
    have hc : (orderR r []).2 = 0 := by simp [orderR, ho]
    have HS := Lib.hid (show safeP r = (!(r.targs.any (lacks (ofList (ordV r.lits)))) && elemOk r) by simp [safeP, ho])
    clear ho
    go_wp2_with fail
    refine (Vars_any r _ (h.keep (keeps_below hb1)) hf).mono ?_
    rintro e w2 ⟨⟨va, vb, rfl, hva, hvb⟩, b2⟩
    clear x0 x1 x2 x3 x4 x5 x6 x7 x8
    have hb2 := below_trans hb1 b2
    have b12 := b1.trans (b2.mono b1.size)
    obtain ⟨x0, x1, x2, x3, x4, x5, x6, x7, x8⟩ := hx _ b12
    clear x0 x1 x3 x4 x5 x6 x7 x8
    go_wp2
    go_region_with (first
      | (go_at_call 39; refine (of_any va (ordV r.lits) w2.drew hva).mono ?_; rintro e w3 ⟨m, rfl, hm, hset, b3⟩; have x23 := cell_keep (w := w2.drew) b3 x2)
      | (go_at_call 46; refine (ContainsFunc_any m _ (ofList (ordV r.lits)) r.args r.targs _ hset (h.1.keep (keeps_below (below_trans hb2.drew b3)))).mono ?_; rintro e w4 ⟨rfl, b4⟩))
    all_goals
      have b34 := b3.trans (b4.mono b3.size)
      have hb4 := below_trans hb2.drew b34
      have b14 := b12.drew.trans (b34.mono b12.drew.size)
      obtain ⟨x0, x1, y2, x3, x4, x5, x6, x7, x8⟩ := hx _ b14
      clear x0 x1 y2 x4 x6 x7 x8 x2 x23
      cases hany : r.targs.any (lacks (ofList (ordV r.lits)))
      · have HS1 := Lib.hid (show safeP r = elemOk r by rw [HS.out, hany]; rfl)
        clear hany HS
        by_cases h2 : r.ekind = 2
        · have HE := Lib.hid (show elemOk r = decide (r.evar ∈ latV r.lits) by simp [elemOk, h2])
          have q2 : (r.ekind != 2) = false := by simp [h2]
          rw [h2] at x3
          go_wp2_with fail
          refine (Contains_any vb (latV r.lits) r.evar _ (IsNames.keep (w := w2.drew) hvb (keeps_below b34))).mono ?_
          rintro e w5 ⟨rfl, b5⟩
          go_wp2
          go_ret
          exact ⟨ret_bool (HS1.out.trans HE.out).symm, below_trans hb4 b5⟩
        · have q2 : (r.ekind != 2) = true := by simpa using h2
          by_cases h3 : r.ekind = 3
          · have HE := Lib.hid (show elemOk r = decide (r.evar ∈ latV r.lits) by simp [elemOk, h3])
            rw [h3] at x3
            go_wp2_with fail
            refine (Contains_any vb (latV r.lits) r.evar _ (IsNames.keep (w := w2.drew) hvb (keeps_below b34))).mono ?_
            rintro e w5 ⟨rfl, b5⟩
            go_wp2
            go_ret
            exact ⟨ret_bool (HS1.out.trans HE.out).symm, below_trans hb4 b5⟩
          · have HE := Lib.hid (show elemOk r = true by simp [elemOk, h2, h3])
            have q3 : (r.ekind != 3) = true := by simpa using h3
            go_wp2
            go_ret
            exact ⟨ret_bool (HS1.out.trans HE.out).symm, hb4⟩
      · have HS1 := Lib.hid (show safeP r = false by rw [HS.out, hany]; rfl)
        go_wp2
        go_ret
        exact ⟨ret_bool HS1.out.symm, hb4⟩
set_option maxHeartbeats 4000000 in
set_option maxRecDepth 100000 in
theorem rSafe_any (r : Rl) (w : World) (h : RuleOk w r) (hf : Fits r) :
    Calls Try.prog 45 #[ruleV r] w fun e w' => e = .returned (.bool (safeP r)) ∧ Below w.heap.size w w' := by
  have b0 : Below w.heap.size w (w.alloc (.cells (ruleCells r) 27)) := (Below.refl _ _).alloc (Nat.le_refl _) _
  have hx := fun w' (hb : Below (w.alloc (.cells (ruleCells r) 27)).heap.size (w.alloc (.cells (ruleCells r) 27)) w') => ruleBox_at hb
  unfold ruleCells at hx b0
  unfold ruleV
  obtain ⟨aa, ca, hra, harg, hma⟩ := id h.1
  have HRA := Lib.hid hra
  clear hra
  go_enter Try.func45, Try.ntmps45
  go_wp2_with fail
  refine (rOrder_any r _ [] _ (h.keep (keeps_below b0)) (nil_names _) hf (by simp)).mono ?_
  rintro e w1 ⟨⟨ve, rfl, -⟩, b1⟩
  have hb1 := below_trans b0 b1
  obtain ⟨x0, x1, x2, x3, x4, x5, x6, x7, x8⟩ := hx _ b1
  cases ho : order (ofList []) r.lits with
  | none =>
    have hc : (orderR r []).2 = 80 := by simp [orderR, ho]
    have HS := Lib.hid (show safeP r = false by simp [safeP, ho])
    clear ho
    go_wp2
    go_ret
    exact ⟨ret_bool HS.out.symm, hb1⟩
  | some out =>
    have hc : (orderR r []).2 = 0 := by simp [orderR, ho]
    have HS := Lib.hid (show safeP r = (!(r.targs.any (lacks (ofList (ordV r.lits)))) && elemOk r) by simp [safeP, ho])
    clear ho
    go_wp2_with fail
    refine (rVars_any r _ (h.keep (keeps_below hb1)) hf).mono ?_
    rintro e w2 ⟨⟨va, vb, rfl, hva, hvb⟩, b2⟩
    clear x0 x1 x2 x3 x4 x5 x6 x7 x8
    have hb2 := below_trans hb1 b2
    have b12 := b1.trans (b2.mono b1.size)
    go_wp2
    go_loopw [7] (fun iv wr => ∃ k : Nat, k ≤ r.targs.length ∧ iv = .int .i64 k ∧ Hid (∀ y ∈ r.targs.take k, lacks (ofList (ordV r.lits)) y = false) ∧ Below w2.heap.size w2 wr) (fun iv _ => r.targs.length - (intOf iv).toNat)
    case atStart => exact ⟨0, by simp, rfl, Lib.hid (by simp), Below.refl _ _⟩
    case round =>
      obtain ⟨k, hk, rfl, HN, b3⟩ := hrel
      have hb4 := below_trans hb2 b3
      have b14 := b12.trans (b3.mono b12.size)
      obtain ⟨x0, x1, x2, x3, x4, x5, x6, x7, x8⟩ := hx _ b14
      clear x0 x1 x4 x6 x7 x8
      rw [HRA.out] at x2
      by_cases hlt : k < r.targs.length
      · obtain ⟨bt, ot, rfl, t0, t1, t2, t3⟩ := terms_at (harg.keep (keeps_below hb4)) (List.getElem?_eq_getElem hlt)
        have hyes : lacks (ofList (ordV r.lits)) r.targs[k] = true → Hid (safeP r = false) := fun e => Lib.hid (by rw [HS.out, List.any_eq_true.2 ⟨r.targs[k], List.getElem_mem hlt, e⟩]; rfl)
        have hno : lacks (ofList (ordV r.lits)) r.targs[k] = false → Hid (∀ y ∈ r.targs.take (k + 1), lacks (ofList (ordV r.lits)) y = false) := fun e => Lib.hid (take_ext hlt HN.out e)
        generalize r.targs[k] = t at *
        go_wp2_with fail
        refine (known_any va (ordV r.lits) t _ (hva.keep (keeps_below b3))).mono ?_
        rintro e w4 ⟨rfl, b4⟩
        cases hq : known (ordV r.lits) t
        · have HF := hyes (by rw [known_is, hq]; rfl)
          clear hyes hno
          go_wp2
          go_ret
          exact ⟨ret_bool HF.out.symm, below_trans hb4 b4⟩
        · have HN' := hno (by rw [known_is, hq]; rfl)
          clear hyes hno
          go_wp2
          go_roundw
          case rel => exact ⟨k + 1, by omega, by go_num, HN', b3.trans (b4.mono b3.size)⟩
          case measure => simp [intOf]; omega
      · have he : k = r.targs.length := by omega
        have HS1 := Lib.hid (show safeP r = elemOk r by
          have hn := HN.out
          rw [he, List.take_length] at hn
          rw [HS.out, List.any_eq_false.2 (by simpa using hn)]; rfl)
        clear he
        by_cases h2 : r.ekind = 2
        · have HE := Lib.hid (show elemOk r = decide (r.evar ∈ latV r.lits) by simp [elemOk, h2])
          have q2 : (r.ekind != 2) = false := by simp [h2]
          rw [h2] at x3
          go_wp2_with fail
          refine (In_any vb (latV r.lits) r.evar _ (hvb.keep (keeps_below b3))).mono ?_
          rintro e w5 ⟨rfl, b5⟩
          go_wp2
          go_ret
          exact ⟨ret_bool (HS1.out.trans HE.out).symm, below_trans hb4 b5⟩
        · have q2 : (r.ekind != 2) = true := by simpa using h2
          by_cases h3 : r.ekind = 3
          · have HE := Lib.hid (show elemOk r = decide (r.evar ∈ latV r.lits) by simp [elemOk, h3])
            rw [h3] at x3
            go_wp2_with fail
            refine (In_any vb (latV r.lits) r.evar _ (hvb.keep (keeps_below b3))).mono ?_
            rintro e w5 ⟨rfl, b5⟩
            go_wp2
            go_ret
            exact ⟨ret_bool (HS1.out.trans HE.out).symm, below_trans hb4 b5⟩
          · have HE := Lib.hid (show elemOk r = true by simp [elemOk, h2, h3])
            have q3 : (r.ekind != 3) = true := by simpa using h3
            go_wp2
            go_ret
            exact ⟨ret_bool (HS1.out.trans HE.out).symm, hb4⟩
end Go.Proofs.Ytnibgmmoebmnlaa
