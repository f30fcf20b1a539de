/- The walks of When and filter. -/
import Derived.Test.YtdibijhaiaiifaaDoorAft
namespace Go.Proofs.YtdibijhaiaiifaaDoor
open Go.RowKit
structure WhI (xs : List RR) (t : Tp) (i : Nat) (W : List Sp) : Prop where
  set : ∀ j, setOf W j = mom (rows (xs.take i)) t j
  len : (∀ x ∈ xs, x.t.length ≤ 64 ∧ x.s.length ≤ 64) → W.length ≤ i * 64
theorem WhI.start (xs : List RR) (t : Tp) : WhI xs t 0 [] := ⟨fun j => by simp; rfl, by simp⟩
theorem mom_one (x : RR) (t : Tp) (j : Nat) : mom (rows [x]) t j = (decide (x.t = t) && setOf x.s j) := by
  show ((decide (x.t = t) && setOf x.s j) || false) = _
  rw [Bool.or_false]
theorem take_succ' {α : Type} {xs : List α} {i : Nat} {x : α} (hx : xs[i]? = some x) : xs.take (i + 1) = xs.take i ++ [x] := by rw [List.take_add_one, hx]; rfl
theorem WhI.hit {xs : List RR} {t : Tp} {i : Nat} {W : List Sp} (h : WhI xs t i W) {x : RR} (hx : xs[i]? = some x) (e : cmpT x.t t = 0) : WhI xs t (i + 1) (W ++ x.s) := by
  refine ⟨fun j => ?_, fun hs => ?_⟩
  · rw [setOf_cat, take_succ' hx, rows_append, mom_append, mom_one, decide_eq_true ((cmpT_is.eq _ _).1 e), Bool.true_and, h.set j]
  · have h1 := h.len hs
    have h2 := (hs x (List.mem_of_getElem? hx)).2
    rw [List.length_append, Nat.add_mul]; omega
theorem WhI.miss {xs : List RR} {t : Tp} {i : Nat} {W : List Sp} (h : WhI xs t i W) {x : RR} (hx : xs[i]? = some x) (e : ¬ cmpT x.t t = 0) : WhI xs t (i + 1) W := by
  refine ⟨fun j => ?_, fun hs => ?_⟩
  · rw [take_succ' hx, rows_append, mom_append, mom_one, decide_eq_false (fun q => e ((cmpT_is.eq _ _).2 q)), Bool.false_and, Bool.or_false, h.set j]
  · have h1 := h.len hs; omega
theorem IsVals.keep2 {w w' : World} {v : Value} {l : Tp} (h : IsVals w v l) (hb : Below w.heap.size w w') : IsVals w' v l := h.keep hb
set_option maxHeartbeats 4000000 in
set_option maxRecDepth 1000000 in
theorem WhenR_any (va vt : Value) (xs : List RR) (t : Tp) (w : World) (hT : Tab w) (ha : IsRel w va xs) (ht : IsVals w vt t) (sa : Sml 10000 xs) :
    Calls Tryd.prog 22 #[va, vt] w fun e w' => ∃ u, e = .returned u ∧ IsSpansF w' w.heap.size u (canon fun k => mom (rows xs) t k) ∧ Below w.heap.size w w' := by
  have HS := Lib.hid sa.each
  have hl := sa.len
  clear sa
  obtain ⟨pa, pc, rfl, -⟩ := ha.shape
  go_enter Tryd.func22, Tryd.ntmps22
  go_wp2
  go_loopg [5, 10] xs.length (fun g v5 vi wr => ∃ (i : Nat) (W : List Sp), vi = .int .i64 i ∧ i ≤ xs.length ∧ xs.length - i ≤ g ∧ Hid (WhI xs t i W) ∧ Owns 2 86 encSp wr w.heap.size v5 W ∧ Below w.heap.size w wr)
  case atStart => exact ⟨0, [], rfl, Nat.zero_le _, Nat.le_refl _, Lib.hid (WhI.start _ _), Owns.nil _ _, Below.refl _ _⟩
  case round =>
    obtain ⟨i, W, rfl, hi, hg, V, H5, B⟩ := hrel
    obtain ⟨p5, c5, rfl⟩ := H5.form
    have hWl : W.length ≤ 1000000 := by have := V.out.len HS.out; omega
    by_cases hlt : i < xs.length
    · have hltz : (i : Int) < (xs.length : Int) := by omega
      obtain ⟨x, hx⟩ := getElem_of_lt hlt
      obtain ⟨b, off, e, c0, c1, rx⟩ := (ha.keep B).at_ hx
      cases e
      have VH := Lib.hid (V.out.hit hx)
      have VM := Lib.hid (V.out.miss hx)
      have hxl := (HS.out x (List.mem_of_getElem? hx)).2
      clear hx
      go_upto_region 5 with fail
      have BA := below_new wr (.cells #[x.av, x.wv] 44)
      have X := Cel.new wr 44 [x.av, x.wv]
      obtain ⟨wA, hwA⟩ : ∃ z, wr.alloc (.cells #[x.av, x.wv] 44) = z := ⟨_, rfl⟩
      have X' : Cel wA wr.heap.size 44 [x.av, x.wv] := by rw [← hwA]; exact X
      rw [hwA] at BA
      rw [hwA]
      clear hwA X c0 c1
      have q0 := X'.at_ (j := 0) rfl
      have q1 := X'.at_ (j := 1) rfl
      have htA := (ht.keep B).keep BA
      have rA := rx.keep BA
      have H6 := H5.keep BA
      have B2 := B.trans (BA.mono B.size)
      go_wp2_with fail
      refine (CompareTuple_any _ _ x.t t _ rA.1 htA).mono ?_
      rintro e w5 ⟨rfl, g5⟩
      obtain ⟨r, hr⟩ : ∃ r, cmpT x.t t = r := ⟨_, rfl⟩
      rw [hr] at VH VM
      rw [hr]
      clear hr
      replace q1 := cell_keep g5.below q1
      have hs5 := (rA.keep g5.below).2.rows
      replace H6 := H6.keep g5.below
      replace B2 := B2.trans (g5.below.mono B2.size)
      clear q0 htA rA g5 X' BA rx
      by_cases hr0 : r = 0
      · have VN := Lib.hid (VH.out hr0)
        subst hr0
        go_wp2_with (at_builtin; refine wpList_cat fitsS encsS rfl _ _ rfl rfl rfl H6 (Below.refl _ _) hs5 B2.size hWl (by omega) ?_; intro p1 c1 w7 hO hB hG)
        go_roundg (xs.length - (i + 1))
        case measure => omega
        case rel => exact ⟨i + 1, _, by go_num, hlt, Nat.le_refl _, VN, by rw [List.length_append] at hO; exact hO, B2.trans hB⟩
      · have VN := Lib.hid (VM.out hr0)
        have hrb : (r == 0) = false := by rw [beq_eq_false_iff_ne]; exact hr0
        go_wp2
        go_roundg (xs.length - (i + 1))
        case measure => omega
        case rel => exact ⟨i + 1, W, by go_num, hlt, Nat.le_refl _, VN, H6, B2⟩
    · have hltz : ¬ (i : Int) < (xs.length : Int) := by omega
      have RES := Lib.hid (show canon (setOf W) = canon fun k => mom (rows xs) t k from canon_ext fun k _ => by rw [V.out.set k, List.take_of_length_le (by omega)])
      have h6 := IsSpans.of_rows (H5.is encsS (by omega))
      go_wp2_with fail
      refine (Of_any _ W _ (hT.keep B) h6).mono ?_
      rintro e w5 ⟨u5, rfl, ⟨h5, f5⟩, B5⟩
      rw [RES.out] at h5
      go_wp2
      go_ret
      exact ⟨u5, rfl, ⟨h5, f5.mono B.size⟩, B.trans (B5.mono B.size)⟩
theorem filter_take {α : Type} {P : α → Bool} {xs : List α} {i : Nat} {x : α} (hx : xs[i]? = some x) : (xs.take (i + 1)).filter P = (xs.take i).filter P ++ (if P x = true then [x] else []) := by
  rw [take_succ' hx, List.filter_append]
  congr 1
  cases h : P x <;> simp [h]
set_option maxHeartbeats 4000000 in
set_option maxRecDepth 1000000 in
theorem filter_any (g : FuncId) (ad : Addr) (P : RR → Bool) (va : Value) (xs : List RR) (w : World) (henter : ∀ args w, (callFunc g args).run Tryd.prog w = .ok (.enter g args) w)
    (hcall : ∀ W, Below w.heap.size w W → ∀ x ∈ xs, Calls Tryd.prog g #[rowV x, .pointer (some ad)] W fun e W' => e = .returned (.bool (P x)) ∧ Below W.heap.size W W') (ha : IsRel w va xs) (hl : xs.length ≤ 1000000) :
    Calls Tryd.prog 86 #[va, .func (.func g) #[] #[.pointer (some ad)]] w fun e w' => ∃ u, e = .returned u ∧ IsRel w' u (xs.filter P) ∧ Below w.heap.size w w' := by
  obtain ⟨pa, pc, rfl, -⟩ := ha.shape
  go_enter Tryd.func86, Tryd.ntmps86
  go_wp2
  go_loopg [5, 9] xs.length (fun g v5 vi wr => ∃ (i : Nat) (out : List RR), vi = .int .i64 i ∧ i ≤ xs.length ∧ xs.length - i ≤ g ∧ Hid (out = (xs.take i).filter P) ∧ Hold 2 44 encR RowOk noB wr w.heap.size v5 out ∧ Below w.heap.size w wr)
  case atStart => exact ⟨0, [], rfl, Nat.zero_le _, Nat.le_refl _, Lib.hid (by simp), Hold.nil _ _, Below.refl _ _⟩
  case round =>
    obtain ⟨i, out, rfl, hi, hg, V, H5, B⟩ := hrel
    obtain ⟨p5, c5, rfl⟩ := H5.form
    have hol : out.length ≤ 1000000 := by
      have h1 := List.length_filter_le P (xs.take i)
      have h2 := List.length_take_le i xs
      rw [← V.out] at h1
      have := List.length_take_le' i xs
      omega
    by_cases hlt : i < xs.length
    · have hltz : (i : Int) < (xs.length : Int) := by omega
      obtain ⟨x, hx⟩ := getElem_of_lt hlt
      obtain ⟨b, off, e, c0, c1, rx⟩ := (ha.keep B).at_ hx
      cases e
      have hxm := List.mem_of_getElem? hx
      have hC := hcall _ B x hxm
      have VN := Lib.hid (filter_take (P := P) hx)
      obtain ⟨q, hq⟩ : ∃ q, P x = q := ⟨_, rfl⟩
      rw [hq] at hC VN
      clear hx hq
      unfold rowV at hC
      go_wp2_with fail
      refine hC.mono ?_
      rintro e w5 ⟨rfl, B5⟩
      have R5 := (ha.keep B).keep B5
      replace c0 := cell_keep B5 c0
      replace c1 := cell_keep B5 c1
      have H6 := H5.keep B5
      have B6 := B.trans (B5.mono B.size)
      cases q
      · have VN' := Lib.hid (show out = (xs.take (i + 1)).filter P by rw [VN.out, ← V.out]; simp)
        clear R5
        go_wp2
        go_roundg (xs.length - (i + 1))
        case measure => omega
        case rel => exact ⟨i + 1, out, by go_num, hlt, Nat.le_refl _, VN', H6, B6⟩
      · have VN' := Lib.hid (show out ++ [x] = (xs.take (i + 1)).filter P by rw [VN.out, ← V.out]; simp)
        have hm : IsRows 2 encR (w5.alloc (.cells #[x.av, x.wv] 44)) (.slice (some ⟨w5.heap.size, 0, none⟩) 1 1) [x] := IsRows.lit w5 [_] encsR (by simp)
        have B7 := below_new w5 (.cells #[x.av, x.wv] 44)
        have hmo : ∀ u ∈ [x], Off RowOk (w5.alloc (.cells #[x.av, x.wv] 44)) (Ex (.slice p5 out.length c5) noB) u := fun u hu => by
          rw [List.mem_singleton.1 hu]
          refine Off.old (w := w) (fun a b => rowOk_keep a b x) (ha.2 x hxm) (B6.trans (B7.mono B6.size)) fun k hk => ?_
          rcases hk with hk | hk
          · exact (H6.1.lt k hk).1
          · exact hk.elim
        clear R5
        go_wp2_with (at_builtin; refine wpList_hold fitsR23 encsR rfl _ _ rfl rfl rfl H6 B7 hm hmo B6.size hol (by simp) ?_; intro p9 c9 w9 H9 B9 hG9; rw [show (out ++ [x]).length = out.length + 1 by simp] at H9)
        go_roundg (xs.length - (i + 1))
        case measure => omega
        case rel => exact ⟨i + 1, _, by go_num, hlt, Nat.le_refl _, VN', H9, B6.trans B9⟩
    · have hltz : ¬ (i : Int) < (xs.length : Int) := by omega
      have RES := Lib.hid (show out = xs.filter P by rw [V.out, List.take_of_length_le (by omega)])
      go_wp2
      go_ret
      exact ⟨_, rfl, by rw [← RES.out]; exact H5.rel (by omega), B⟩
end Go.Proofs.YtdibijhaiaiifaaDoor
