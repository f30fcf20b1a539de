/- The walks of the reference's comparisons, of Small and of copied. -/
import Derived.Test.YtnibgmmoebmnlaaWe
namespace Go.Proofs.Ytnibgmmoebmnlaa
open Go.RowKit
theorem take_same {α : Type} {a b : List α} {k : Nat} (ha : k < a.length) (hb : k < b.length) (h : a.take k = b.take k) (e : a[k] = b[k]) : a.take (k + 1) = b.take (k + 1) := by
  rw [List.take_succ_eq_append_getElem ha, List.take_succ_eq_append_getElem hb, h, e]
theorem differ_at {α : Type} {a b : List α} {k : Nat} (ha : k < a.length) (hb : k < b.length) (e : ¬a[k] = b[k]) : ¬a = b := by
  rintro rfl; exact e rfl
theorem Ints_any (va vb : Value) (a b : List Int) (w : World) (ha : IsInts w va a) (hb : IsInts w vb b) :
    Calls Try.prog 17 #[va, vb] w fun e w' => e = .returned (.bool (decide (a = b))) ∧ Below w.heap.size w w' := by
  obtain ⟨pa, ca, rfl, ha, hma⟩ := ha
  obtain ⟨pb, cb, rfl, hb, hmb⟩ := hb
  by_cases hl : a.length = b.length
  · go_enter Try.func17, Try.ntmps17
    have hl' : ((a.length : Int) != b.length) = false := by rw [bne_eq_false_iff_eq]; omega
    have HL := Lib.hid hl
    have hle : a.length ≤ b.length := by omega
    clear hl
    go_wp2
    go_loopw [5] (fun i wr => ∃ k : Nat, k ≤ a.length ∧ i = .int .i64 k ∧ a.take k = b.take k ∧ Below w.heap.size w wr) (fun i _ => a.length - (intOf i).toNat)
    case atStart => exact ⟨0, Nat.zero_le _, rfl, by simp, Below.refl _ _⟩
    case round =>
      obtain ⟨k, hk, rfl, hno, hbb⟩ := hrel
      by_cases hlt : k < a.length
      · have hlt' : k < b.length := by omega
        obtain ⟨b1, o1, rfl, c1⟩ := (ha.keep (keeps_below hbb)).one (List.getElem?_eq_getElem hlt) rfl
        obtain ⟨b2, o2, rfl, c2⟩ := (hb.keep (keeps_below hbb)).one (List.getElem?_eq_getElem hlt') rfl
        by_cases he : a[k] = b[k]
        · have hq : (a[k] == b[k]) = true := by rw [he]; exact beq_self_eq_true _
          have hno' := take_same hlt hlt' hno he
          rw [he] at c1
          clear he hq
          generalize b[k] = x at *
          go_wp2
          go_quiet (fail)
          go_wp2
          go_roundw
          case rel => exact ⟨k + 1, by omega, by go_num, hno', below_drewN hbb _⟩
          case measure => simp [intOf]; omega
        · have HD := Lib.hid (decide_eq_false (differ_at hlt hlt' he))
          have hq := ne_beq he
          generalize a[k] = x at *
          generalize b[k] = y at *
          go_wp2
          go_quiet (fail)
          go_wp2
          go_ret
          exact ⟨ret_bool HD.out.symm, below_drewN hbb _⟩
      · have e : k = a.length := by omega
        subst e
        have hab : a = b := by rw [List.take_length, HL.out, List.take_length] at hno; exact hno
        have HD := Lib.hid (decide_eq_true hab)
        clear hab hno
        go_wp2
        go_ret
        exact ⟨ret_bool HD.out.symm, hbb⟩
  · have HD := Lib.hid (decide_eq_false (show ¬a = b from fun e => hl (by rw [e])))
    have hl' : ¬ (a.length : Int) = b.length := by omega
    have hl'' := ne_beq hl'
    go_enter Try.func17, Try.ntmps17
    go_wp2
    go_ret
    exact ⟨ret_bool HD.out.symm, Below.refl _ _⟩
theorem Names_any (va vb : Value) (a b : List Nm) (w : World) (ha : IsNames w va a) (hb : IsNames w vb b) :
    Calls Try.prog 18 #[va, vb] w fun e w' => e = .returned (.bool (decide (a = b))) ∧ Below w.heap.size w w' := by
  obtain ⟨pa, ca, rfl, ha, hma⟩ := ha
  obtain ⟨pb, cb, rfl, hb, hmb⟩ := hb
  by_cases hl : a.length = b.length
  · go_enter Try.func18, Try.ntmps18
    have hl' : ((a.length : Int) != b.length) = false := by rw [bne_eq_false_iff_eq]; omega
    have HL := Lib.hid hl
    have hle : a.length ≤ b.length := by omega
    clear hl
    go_wp2
    go_loopw [5] (fun i wr => ∃ k : Nat, k ≤ a.length ∧ i = .int .i64 k ∧ a.take k = b.take k ∧ Below w.heap.size w wr) (fun i _ => a.length - (intOf i).toNat)
    case atStart => exact ⟨0, Nat.zero_le _, rfl, by simp, Below.refl _ _⟩
    case round =>
      obtain ⟨k, hk, rfl, hno, hbb⟩ := hrel
      by_cases hlt : k < a.length
      · have hlt' : k < b.length := by omega
        obtain ⟨b1, o1, rfl, c1⟩ := (ha.keep (keeps_below hbb)).one (List.getElem?_eq_getElem hlt) rfl
        obtain ⟨b2, o2, rfl, c2⟩ := (hb.keep (keeps_below hbb)).one (List.getElem?_eq_getElem hlt') rfl
        by_cases he : a[k] = b[k]
        · have hq := nm_eq he
          have hno' := take_same hlt hlt' hno he
          clear he
          generalize a[k] = x at *
          generalize b[k] = y at *
          go_wp2
          go_quiet (fail)
          go_wp2
          go_roundw
          case rel => exact ⟨k + 1, by omega, by go_num, hno', below_drewN hbb _⟩
          case measure => simp [intOf]; omega
        · have HD := Lib.hid (decide_eq_false (differ_at hlt hlt' he))
          have hq := nm_ne he
          generalize a[k] = x at *
          generalize b[k] = y at *
          go_wp2
          go_quiet (fail)
          go_wp2
          go_ret
          exact ⟨ret_bool HD.out.symm, below_drewN hbb _⟩
      · have e : k = a.length := by omega
        subst e
        have hab : a = b := by rw [List.take_length, HL.out, List.take_length] at hno; exact hno
        have HD := Lib.hid (decide_eq_true hab)
        clear hab hno
        go_wp2
        go_ret
        exact ⟨ret_bool HD.out.symm, hbb⟩
  · have HD := Lib.hid (decide_eq_false (show ¬a = b from fun e => hl (by rw [e])))
    have hl' : ¬ (a.length : Int) = b.length := by omega
    have hl'' := ne_beq hl'
    go_enter Try.func18, Try.ntmps18
    go_wp2
    go_ret
    exact ⟨ret_bool HD.out.symm, Below.refl _ _⟩
/-- A diagnostic. -/
def encD (d : Int × Int) : List Value := [.int .i64 d.1, .int .i64 d.2]
def IsDiags (w : World) (v : Value) (l : List (Int × Int)) : Prop := IsRows 2 encD w v l
theorem IsDiags.keep {w w' : World} {v : Value} {l : List (Int × Int)} (h : IsDiags w v l) (hk : Keeps w w') : IsDiags w' v l := IsRows.keep h hk
theorem diags_at {w : World} {a : Option Addr} {l : List (Int × Int)} (h : RowsAt 2 encD w a l) {i : Nat} {t : Int × Int} (hi : l[i]? = some t) :
    ∃ b off, a = some ⟨b, off, none⟩ ∧ w.cell? ⟨b, off + i * 2, none⟩ = some (.int .i64 t.1) ∧ w.cell? ⟨b, off + i * 2 + 1, none⟩ = some (.int .i64 t.2) := by
  obtain ⟨b, off, ha, hc⟩ := h.at_ hi
  have hc := hc i t hi
  exact ⟨b, off, ha, hc 0 _ rfl, hc 1 _ rfl⟩
theorem run_neq_dg (p q p' q' : Int) (w : World) : (binOp .neq 76 (.agg #[.int .i64 p, .int .i64 q]) (.agg #[.int .i64 p', .int .i64 q'])).run Try.prog w = .ok (.bool (!(p == p' && q == q'))) w := by
  have hp : Try.prog.stoodInHeld 76 = false := by kernel_rfl
  have hf : Try.prog.underlying 76 = some (.struct (Try.prog.fieldsOf 76)) := by kernel_rfl
  rw [run_neq_struct, run_equalIn_agg w 9999 76 _ _ hf hp]
  simp [go_sem]
  by_cases h : p = p' <;> by_cases h' : q = q' <;> simp [h, h']
theorem run_guard_dg (x y : Operand) (u v : Array Value) (w : World) : (eqGuard .neq 76 x y (.agg u) (.agg v)).run Try.prog w = .ok () w := run_eqGuard_agg w .neq 76 x y u v (by kernel_rfl)
theorem neq_yes (p q p' q' : Int) (h : ¬ (p = p' ∧ q = q')) (w : World) : (binOp .neq 76 (.agg #[.int .i64 p, .int .i64 q]) (.agg #[.int .i64 p', .int .i64 q'])).run Try.prog w = .ok (.bool true) w := by
  rw [run_neq_dg]; congr 2; simp; omega
theorem neq_no (p q : Int) (w : World) : (binOp .neq 76 (.agg #[.int .i64 p, .int .i64 q]) (.agg #[.int .i64 p, .int .i64 q])).run Try.prog w = .ok (.bool false) w := by
  rw [run_neq_dg]; simp
set_option maxHeartbeats 1000000 in
theorem Diags_any (va vb : Value) (a b : List (Int × Int)) (w : World) (ha : IsDiags w va a) (hb : IsDiags w vb b) :
    Calls Try.prog 21 #[va, vb] w fun e w' => e = .returned (.bool (decide (a = b))) ∧ Below w.heap.size w w' := by
  obtain ⟨pa, ca, rfl, ha, hma⟩ := ha
  obtain ⟨pb, cb, rfl, hb, hmb⟩ := hb
  have hg := run_guard_dg
  by_cases hl : a.length = b.length
  · go_enter Try.func21, Try.ntmps21
    have hl' : ((a.length : Int) != b.length) = false := by rw [bne_eq_false_iff_eq]; omega
    have HL := Lib.hid hl
    have hle : a.length ≤ b.length := by omega
    clear hl
    go_wp2
    go_loopw [5] (fun i wr => ∃ k : Nat, k ≤ a.length ∧ i = .int .i64 k ∧ a.take k = b.take k ∧ Below w.heap.size w wr) (fun i _ => a.length - (intOf i).toNat)
    case atStart => exact ⟨0, Nat.zero_le _, rfl, by simp, Below.refl _ _⟩
    case round =>
      obtain ⟨k, hk, rfl, hno, hbb⟩ := hrel
      by_cases hlt : k < a.length
      · have hlt' : k < b.length := by omega
        obtain ⟨b1, o1, rfl, c1, c2⟩ := diags_at (ha.keep (keeps_below hbb)) (List.getElem?_eq_getElem hlt)
        obtain ⟨b2, o2, rfl, c3, c4⟩ := diags_at (hb.keep (keeps_below hbb)) (List.getElem?_eq_getElem hlt')
        by_cases he : a[k] = b[k]
        · have hq : (a[k] == b[k]) = true := by rw [he]; exact beq_self_eq_true _
          have hno' := take_same hlt hlt' hno he
          rw [he] at c1 c2
          clear he
          generalize b[k] = x at *
          obtain ⟨p, q⟩ := x
          have hr := neq_no p q
          go_wp2
          go_quiet (fail)
          go_wp2
          go_roundw
          case rel => exact ⟨k + 1, by omega, by go_num, hno', below_drewN hbb _⟩
          case measure => simp [intOf]; omega
        · have HD := Lib.hid (decide_eq_false (differ_at hlt hlt' he))
          generalize a[k] = x at *
          generalize b[k] = y at *
          obtain ⟨p, q⟩ := x
          obtain ⟨p', q'⟩ := y
          have hr := neq_yes p q p' q' (fun e => he (by rw [e.1, e.2]))
          clear he
          go_wp2
          go_quiet (fail)
          go_wp2
          go_ret
          exact ⟨ret_bool HD.out.symm, below_drewN hbb _⟩
      · have e : k = a.length := by omega
        subst e
        have hab : a = b := by rw [List.take_length, HL.out, List.take_length] at hno; exact hno
        have HD := Lib.hid (decide_eq_true hab)
        clear hab hno
        go_wp2
        go_ret
        exact ⟨ret_bool HD.out.symm, hbb⟩
  · have HD := Lib.hid (decide_eq_false (show ¬a = b from fun e => hl (by rw [e])))
    have hl' : ¬ (a.length : Int) = b.length := by omega
    have hl'' := ne_beq hl'
    go_enter Try.func21, Try.ntmps21
    go_wp2
    go_ret
    exact ⟨ret_bool HD.out.symm, Below.refl _ _⟩
theorem flat_names (l : List Nm) : l.flatMap encS = l.map fun x => .string x.1 := by
  induction l with
  | nil => rfl
  | cons x r ih => rw [List.flatMap_cons, ih]; rfl
theorem names_oneCell (l : List Nm) : ∀ u ∈ l.flatMap encS, u.oneCell' = true := by
  rw [flat_names]
  intro u hu
  obtain ⟨x, _, rfl⟩ := List.mem_map.1 hu
  rfl
theorem names_cells {w : World} {b off : Nat} {l : List Nm} (hc : ∀ i x, l[i]? = some x → ∀ j u, (encS x)[j]? = some u → w.cell? ⟨b, off + i * 1 + j, none⟩ = some u) :
    ∀ j u, (l.flatMap encS)[j]? = some u → w.cell? ((⟨b, off, none⟩ : Addr).add j) = some u := by
  rw [flat_names]
  intro j u hj
  rw [List.getElem?_map] at hj
  obtain ⟨x, hx, rfl⟩ := Option.map_eq_some_iff.1 hj
  have := hc j x hx 0 _ rfl
  have hadd : (⟨b, off, none⟩ : Addr).add j = ⟨b, off + j, none⟩ := by
    unfold Addr.add; split
    · rename_i h0; subst h0; simp
    · simp
  rw [hadd]; simpa using this
set_option maxHeartbeats 1000000 in
set_option maxRecDepth 100000 in
theorem copied_any (v : Value) (l : List Nm) (w : World) (h : IsNames w v l) (hl : l.length ≤ 1000000) :
    Calls Try.prog 42 #[v] w fun e w' => ∃ v', e = .returned v' ∧ OwnNames w' w.heap.size v' l ∧ Below w.heap.size w w' := by
  obtain ⟨i0, hi, hz0, hz1, hz2⟩ := info_parts info9'
  obtain ⟨a, c, rfl, h, hm⟩ := h
  have h0 : (w.alloc (.cells #[] 9)).ownsRow w.heap.size 9 1 (.slice (some ⟨w.heap.size, 0, none⟩) 0 0) 0 [] := World.ownsRow_lit w #[] 0 (Nat.le_refl _) (by decide) rfl
  have b0 : Below w.heap.size w (w.alloc (.cells #[] 9)) := (Below.refl _ _).alloc (Nat.le_refl _) _
  rcases h with h | ⟨b, off, rfl, hc⟩
  · subst h
    cases a
    · go_enter Try.func42, Try.ntmps42
      go_wp2
      go_ret
      exact ⟨_, rfl, h0, b0⟩
    · go_enter Try.func42, Try.ntmps42
      go_wp2
      go_ret
      exact ⟨_, rfl, h0, b0⟩
  · have hn := names_cells fun i x hi j u hj => keeps_below b0 _ _ (hc i x hi j u hj)
    have hlen : (l.flatMap encS).length = l.length * 1 := by rw [flat_names]; simp
    have h1 := names_oneCell l
    obtain ⟨news, hnews⟩ : ∃ x, x = l.flatMap encS := ⟨_, rfl⟩
    rw [← hnews] at hn hlen h1
    have HN := Lib.hid hnews.symm
    clear hnews
    go_enter Try.func42, Try.ntmps42
    go_wp2_with (at_builtin; refine wpList_append_own _ rfl _ _ 28 rfl w.heap.size 9 i0 (.string ⟨#[]⟩) 1 16 Try.underlying28 hi hz0 hz1 hz2 rfl (by decide) _ _ _ rfl h0 ⟨b, off, none⟩ l.length c news rfl hlen hn h1 (by unfold maxLen; omega) (by omega) (by simp) ?_; intro v' w1 hown' hgrow _)
    go_ret
    refine ⟨v', rfl, ?_, b0.grown hgrow (by simp) (own_from h0)⟩
    unfold OwnNames
    rw [HN.out]
    simpa using hown'
end Go.Proofs.Ytnibgmmoebmnlaa
