/- The walks of the laws' helpers: variable, lit, number, order, ready, less. -/
import Derived.Test.YtnibgmmoebmnlaaWo
namespace Go.Proofs.Ytnibgmmoebmnlaa
open Go.RowKit
def mkVar (x : Nm) : Tm := ⟨x, 0, 0, noName⟩
def mkNum (n : Int) : Tm := ⟨noName, 1, n, noName⟩
def nm (b : UInt8) : Nm := ⟨⟨#[b]⟩, by unfold maxLen; show 1 ≤ _; decide⟩
def mkLit (kind op : Int) (v : Value) (ts : List Tm) : Lt := ⟨kind, nm 112, 0, v, ts, noName, noName, 0, op, 0⟩
def mkRule (v : Value) (ls : List Lt) : Rl := ⟨noName, 0, .slice none 0 0, [], 0, noName, noName, 0, v, ls, 0⟩
theorem nil_terms (w : World) : IsTerms w (.slice none 0 0) [] := ⟨none, 0, rfl, .inl rfl, by simp⟩
/-- Rows that have just been laid. -/
theorem rows_new {α : Type} {k : Nat} {enc : α → List Value} (w : World) (l : List α) (t : TypeId) (hl : ∀ x ∈ l, (enc x).length = k) (hm : l.length ≤ 9223372036854775807) (c : Nat) :
    IsRows k enc (w.alloc (.cells (l.flatMap enc).toArray t)) (.slice (some ⟨w.heap.size, 0, none⟩) l.length c) l := by
  refine ⟨_, _, rfl, .inr ⟨_, _, rfl, fun i x hi j u hj => ?_⟩, hm⟩
  have e : (w.alloc (.cells (l.flatMap enc).toArray t)).heap[w.heap.size]? = some (.cells (l.flatMap enc).toArray t) := heap_alloc_new w _
  rw [cell_of_row _ w.heap.size _ _ t (0, 0) e]
  have := flat_get l hl i x hi j u hj
  simpa using this
theorem variable_any (x : Nm) (w : World) : Calls Try.prog 32 #[.string x.1] w fun e w' => e = .returned (termV (mkVar x)) ∧ Below w.heap.size w w' := by
  go_enter Try.func32, Try.ntmps32
  go_wp2
  have b0 : Below w.heap.size w (w.alloc (.cells #[.string x.1, .int .i64 0, .int .i64 0, .string ⟨#[]⟩] 69)) := (Below.refl _ _).alloc (Nat.le_refl _) _
  simp [bodyPost, results, go_sem]
  exact ⟨rfl, b0⟩
theorem number_any (n : Int) (w : World) : Calls Try.prog 35 #[.int .i64 n] w fun e w' => e = .returned (termV (mkNum n)) ∧ Below w.heap.size w w' := by
  go_enter Try.func35, Try.ntmps35
  go_wp2
  have b0 : Below w.heap.size w (w.alloc (.cells #[.string ⟨#[]⟩, .int .i64 1, .int .i64 n, .string ⟨#[]⟩] 69)) := (Below.refl _ _).alloc (Nat.le_refl _) _
  simp [bodyPost, results, go_sem]
  exact ⟨rfl, b0⟩
theorem lit_any (kind op : Int) (v : Value) (ts : List Tm) (w : World) (h : IsTerms w v ts) :
    Calls Try.prog 33 #[.int .i64 kind, .int .i64 op, v] w fun e w' => e = .returned (litV (mkLit kind op v ts)) ∧ LitOk w' (mkLit kind op v ts) ∧ Below w.heap.size w w' := by
  have h0 := h
  obtain ⟨a, c, rfl, h, hm⟩ := h
  go_enter Try.func33, Try.ntmps33
  go_wp2
  have b0 : Below w.heap.size w (w.alloc (.cells #[.int .i64 kind, .string ⟨#[112]⟩, .int .i64 0, .slice a ts.length c, .string ⟨#[]⟩, .string ⟨#[]⟩, .int .i64 0, .int .i64 op, .int .i64 0] 58)) := (Below.refl _ _).alloc (Nat.le_refl _) _
  simp [bodyPost, results, go_sem]
  exact ⟨rfl, h0.keep (keeps_below b0), b0⟩
theorem order_any (vw : Value) (want : List Int) (vb : Value) (bound : List Nm) (vl : Value) (ls : List Lt) (w : World) (hw : IsInts w vw want) (hb : IsNames w vb bound) (hl : IsLits w vl ls) (hf : Fits (mkRule vl ls)) (hbl : bound.length ≤ 1000) :
    Calls Try.prog 34 #[vw, vb, vl] w fun e w' => e = .returned (.bool (decide (orderR (mkRule vl ls) bound = (want, 0)))) ∧ Below w.heap.size w w' := by
  have hl0 := hl
  obtain ⟨⟨al, cl, rfl, -, -⟩, -⟩ := hl
  have hO := Order_any (mkRule (.slice al ls.length cl) ls) vb bound w ⟨nil_terms _, hl0⟩ hb hf hbl
  obtain ⟨R, hR⟩ : ∃ R, orderR (mkRule (.slice al ls.length cl) ls) bound = R := ⟨_, rfl⟩
  rw [hR] at hO ⊢
  clear hR
  obtain ⟨out, code⟩ := R
  go_enter Try.func34, Try.ntmps34
  go_wp2_with fail
  refine hO.mono ?_
  rintro e w1 ⟨⟨ve, rfl, hve⟩, b1⟩
  dsimp only at *
  by_cases hc : code = 0
  · have HD := Lib.hid (show decide ((out, code) = (want, (0 : Int))) = decide (out = want) by simp [hc])
    subst hc
    go_wp2_with fail
    refine (Ints_any ve vw out want _ hve (hw.keep (keeps_below b1))).mono ?_
    rintro e w2 ⟨rfl, b2⟩
    go_wp2
    go_ret
    exact ⟨ret_bool HD.out.symm, below_trans b1 b2⟩
  · have HD := Lib.hid (show decide ((out, code) = (want, (0 : Int))) = false by simp [hc])
    have q := ne_beq hc
    go_wp2
    go_ret
    exact ⟨ret_bool HD.out.symm, b1⟩
theorem evaluable_one (s : Nm → Bool) (l : Lt) : evaluable s [l] [0] = ready s l := by
  simp [evaluable, evalGo, stepOk, cand, aft]
theorem one_lit (w : World) (l : Lt) : IsRows 9 encL (w.alloc (.cells (encL l).toArray 58)) (.slice (some ⟨w.heap.size, 0, none⟩) 1 1) [l] := by
  have := rows_new (enc := encL) w [l] 58 (k := 9) (fun _ _ => rfl) (by simp) 1
  simpa using this
theorem one_int (w : World) (n : Int) : IsInts (w.alloc (.cells #[.int .i64 n] 3)) (.slice (some ⟨w.heap.size, 0, none⟩) 1 1) [n] := by
  have := rows_new (enc := encI) w [n] 3 (k := 1) (fun _ _ => rfl) (by simp) 1
  simp [encI] at this
  exact this
theorem ready1_any (l : Lt) (vb : Value) (bound : List Nm) (w : World) (h : LitOk w l) (hb : IsNames w vb bound) (h6 : l.targs.length ≤ 6) (hbl : bound.length ≤ 1000) :
    Calls Try.prog 27 #[litV l, vb] w fun e w' => e = .returned (.bool (ready (ofList bound) l)) ∧ Below w.heap.size w w' := by
  have h0 := h
  obtain ⟨a, c, ha, h, hm⟩ := h
  obtain ⟨lk, ln, lp, la, lt, lb, le, ll, lo, lat⟩ := l
  dsimp only at *
  subst ha
  unfold litV
  dsimp only
  obtain ⟨L, hL⟩ : ∃ L : Lt, L = ⟨lk, ln, lp, .slice a lt.length c, lt, lb, le, ll, lo, lat⟩ := ⟨_, rfl⟩
  obtain ⟨C, hC⟩ : ∃ C, C = (Obj.cells #[.int .i64 lk, .string ln.1, .int .i64 lp, .slice a lt.length c, .string lb.1, .string le.1, .int .i64 ll, .int .i64 lo, .int .i64 lat] 58) := ⟨_, rfl⟩
  have hCL : C = .cells (encL L).toArray 58 := by rw [hC, hL]; rfl
  have HE := Lib.hid (evaluable_one (ofList bound) L)
  rw [← hL] at h0 ⊢
  obtain ⟨wb, hwb⟩ : ∃ x : World, x = w.alloc C := ⟨_, rfl⟩
  have b0 : Below w.heap.size w wb := by subst hwb; exact (Below.refl _ _).alloc (Nat.le_refl _) _
  have n1 := one_lit wb L
  have n2 := one_int (wb.alloc C) 0
  rw [← hCL] at n1
  have b1 : Below wb.heap.size wb (wb.alloc C) := (Below.refl _ _).alloc (Nat.le_refl _) _
  have b2 : Below (wb.alloc C).heap.size (wb.alloc C) ((wb.alloc C).alloc (.cells #[.int .i64 0] 3)) := (Below.refl _ _).alloc (Nat.le_refl _) _
  have b12 := below_trans b1 b2
  have b012 := below_trans b0 b12
  have hlits : IsLits ((wb.alloc C).alloc (.cells #[.int .i64 0] 3)) (.slice (some ⟨wb.heap.size, 0, none⟩) 1 1) [L] := ⟨IsRows.keep n1 (keeps_below b2), fun x hx => by
    have : x = L := by simpa using hx
    rw [this]; exact h0.keep (keeps_below b012)⟩
  have hE := Evaluable_any (mkRule (.slice (some ⟨wb.heap.size, 0, none⟩) 1 1) [L]) vb bound (.slice (some ⟨(wb.alloc C).heap.size, 0, none⟩) 1 1) [0] _ ⟨nil_terms _, hlits⟩ (hb.keep (keeps_below b012)) n2 ⟨by simp [mkRule], by simp [mkRule]; rw [hL]; exact h6⟩ hbl
  have s1 : wb.heap.size = w.heap.size + 1 := by subst hwb; simp
  have s2 : (wb.alloc C).heap.size = w.heap.size + 1 + 1 := by simp; exact s1
  rw [s2, s1] at hE
  have hL' := Lib.hid hL
  clear hL
  go_enter Try.func27, Try.ntmps27
  go_wp2_with fail
  rw [← hC]
  rw [← hwb]
  refine hE.mono ?_
  rintro e w1 ⟨rfl, b1⟩
  go_wp2
  go_ret
  exact ⟨ret_bool HE.out, below_trans b012 b1⟩
theorem lessP_cases : True := trivial
end Go.Proofs.Ytnibgmmoebmnlaa
