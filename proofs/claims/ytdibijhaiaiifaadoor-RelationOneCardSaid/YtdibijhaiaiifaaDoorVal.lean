/- The walk of Valid of a relation. -/
import Derived.Test.YtdibijhaiaiifaaDoorVv
import Derived.BigQuiet
namespace Go.Proofs.YtdibijhaiaiifaaDoor
open Go.RowKit
def encI (n : Int) : List Value := [.int .i64 n]
theorem encsI : Encs 1 encI := ⟨fun _ => rfl, fun x u hu => by unfold encI at hu; simp at hu; subst hu; rfl⟩
def IsInts (w : World) (v : Value) (l : List Int) : Prop := IsRows 1 encI w v l
theorem IsInts.keep {w w' : World} {v : Value} {l : List Int} (h : IsInts w v l) (hb : Below w.heap.size w w') : IsInts w' v l := IsRows.keep h (keeps_below hb)
theorem IsInts.at_ {w : World} {a : Option Addr} {n c : Nat} {l : List Int} (h : IsInts w (.slice a n c) l) {i : Nat} {x : Int} (hi : l[i]? = some x) : ∃ b off, a = some ⟨b, off, none⟩ ∧ w.cell? ⟨b, off + i, none⟩ = some (.int .i64 x) := by
  obtain ⟨a', c', e, hr, hm⟩ := h
  injection e with e1 e2 e3
  subst e1
  exact hr.one hi rfl
/-- A tuple of one good value of each type. -/
def Typed (ty : List Int) (t : Tp) : Prop := t.length = ty.length ∧ ∀ (i : Nat) (x : Int) (y : Vl), ty[i]? = some x → t[i]? = some y → y.t = x ∧ validV y = true
/-- A good relation. -/
def GoodR (ty : List Int) (r : List Rw) : Prop := (∀ x ∈ r, Typed ty x.1) ∧ IsCan r
theorem goodR_nil (ty : List Int) : GoodR ty [] := ⟨by simp, trivial, by simp⟩
theorem Up_prefix {a b : List Rw} (h : Up (a ++ b)) : Up a := by
  induction a with
  | nil => trivial
  | cons x a ih => exact ⟨fun y hy => h.1 y (by simp [hy]), ih h.2⟩
theorem up_before {x : Rw} : ∀ {a : List Rw}, Up (a ++ [x]) → ∀ z ∈ a, cmpT z.1 x.1 < 0
  | u :: a, h, z, hz => by
    rcases List.mem_cons.1 hz with rfl | hz
    · exact h.1 x (by simp)
    · exact up_before h.2 z hz
theorem up_last {a : List Rw} {x y : Rw} (h : Up (a ++ [x])) (hxy : cmpT x.1 y.1 < 0) : Up (a ++ [x] ++ [y]) := by
  refine Up_snoc h fun z hz => ?_
  rcases List.mem_append.1 hz with hz | hz
  · exact cmpT_is.trans _ _ _ (up_before h z hz) hxy
  · simp at hz; subst hz; exact hxy
theorem good_step {ty : List Int} {xs : List RR} {i : Nat} {x : RR} (h : GoodR ty (rows (xs.take i))) (hx : xs[i]? = some x) (ht : Typed ty x.t) (hw : OkW x.s) (hp : ∀ p, 0 < i → xs[i - 1]? = some p → cmpT p.t x.t < 0) : GoodR ty (rows (xs.take (i + 1))) := by
  rw [take_succ' hx, rows_append]
  refine ⟨fun y hy => ?_, ?_, fun y hy => ?_⟩
  · rcases List.mem_append.1 hy with hy | hy
    · exact h.1 y hy
    · have : y = x.rw := by simpa [rows] using hy
      rw [this]; exact ht
  · cases i with
    | zero => simp [rows, Up]
    | succ j =>
      have hj : j < xs.length := by have := (List.getElem?_eq_some_iff.1 hx).1; omega
      obtain ⟨p, hpj⟩ := getElem_of_lt hj
      have h2 := h.2.1
      rw [take_succ' hpj, rows_append] at h2 ⊢
      exact up_last h2 (hp p (by omega) hpj)
  · rcases List.mem_append.1 hy with hy | hy
    · exact h.2.2 y hy
    · have : y = x.rw := by simpa [rows] using hy
      rw [this]; exact hw
theorem up_next : ∀ {xs : List RR} {i : Nat} {p x : RR}, Up (rows xs) → xs[i]? = some p → xs[i + 1]? = some x → cmpT p.t x.t < 0
  | y :: xs, 0, p, x, h, hp, hx => by
    obtain rfl : y = p := by simpa using hp
    exact up_head h x (List.mem_of_getElem? (i := 0) (by simpa using hx))
  | y :: xs, i + 1, p, x, h, hp, hx => up_next (xs := xs) h.2 (by simpa using hp) (by simpa using hx)
theorem bad_row {ty : List Int} {xs : List RR} {i : Nat} {x : RR} (hx : xs[i]? = some x) (h : ¬ Typed ty x.t ∨ ¬ OkW x.s) : ¬ GoodR ty (rows xs) := fun g => by
  have hm : x.rw ∈ rows xs := mem_rows.2 ⟨x, List.mem_of_getElem? hx, rfl⟩
  rcases h with h | h
  · exact h (g.1 _ hm)
  · exact h (g.2.2 _ hm)
theorem bad_pair {ty : List Int} {xs : List RR} {i : Nat} {p x : RR} (hp : xs[i]? = some p) (hx : xs[i + 1]? = some x) (h : ¬ cmpT p.t x.t < 0) : ¬ GoodR ty (rows xs) := fun g => h (up_next g.2.1 hp hx)
theorem bool_of (p : Prop) : ∃ q : Bool, Hid (q = false ↔ p) := by
  classical
  exact ⟨decide ¬ p, Lib.hid (by simp)⟩
/-- Up to k a tuple is of the types. -/
def TypedTo (ty : List Int) (t : Tp) (k : Nat) : Prop := t.length = ty.length ∧ ∀ (i : Nat) (x : Int) (y : Vl), i < k → ty[i]? = some x → t[i]? = some y → y.t = x ∧ validV y = true
def VldRet (ty : List Int) (xs : List RR) (w : World) (e : Ending) (w' : World) : Prop := ∃ b, e = .returned (.bool b) ∧ (b = true ↔ GoodR ty (rows xs)) ∧ Below w.heap.size w w'
theorem VldRet.no {ty : List Int} {xs : List RR} {w w' : World} (h : ¬ GoodR ty (rows xs)) (hb : Below w.heap.size w w') : VldRet ty xs w (.returned (.bool false)) w' := ⟨false, rfl, ⟨fun e => (by cases e), fun g => absurd g h⟩, hb⟩
theorem VldRet.yes {ty : List Int} {xs : List RR} {w w' : World} (h : GoodR ty (rows xs)) (hb : Below w.heap.size w w') : VldRet ty xs w (.returned (.bool true)) w' := ⟨true, rfl, ⟨fun _ => h, fun _ => rfl⟩, hb⟩
theorem validSp_after {W : World} {v : Value} {l : List Sp} {b : Bool} (hT : Tab W) (h : IsSpans W v l) (hb : decide (l = canon (setOf l)) = b) (p : AftB W) : Calls Tryd.prog 72 #[v] p.w' fun e w'' => e = .returned (.bool b) ∧ ∃ q : AftB W, w'' = q.w' := by
  subst hb
  exact AftB.call (Valid_any v l p.w' (hT.keep p.ok) (h.keep p.ok))
theorem byArgs_aftB {W : World} {x y : RR} (hx : RowOk W x) (hy : RowOk W y) (p : AftB W) : Calls Tryd.prog 73 #[rowV x, rowV y] p.w' fun e w'' => e = .returned (.int .i64 (cmpT x.t y.t)) ∧ ∃ q : AftB W, w'' = q.w' :=
  AftB.call ((byArgs_any x y p.w' (hx.keep p.ok).1 (hy.keep p.ok).1).mono fun _ _ ⟨h, g⟩ => ⟨h, g.below⟩)
theorem validV_aftB {W : World} {x : Vl} {b : Bool} (hT : Tab W) (hb : validV x = b) (p : AftB W) : Calls Tryd.prog 74 #[valV x] p.w' fun e w'' => e = .returned (.bool b) ∧ ∃ q : AftB W, w'' = q.w' := by
  subst hb
  exact AftB.call (validV_any x p.w' (hT.keep p.ok))
set_option maxHeartbeats 4000000 in
set_option maxRecDepth 1000000 in
theorem ValidR_any (vt va : Value) (ty : List Int) (xs : List RR) (w : World) (hT : Tab w) (ht : IsInts w vt ty) (ha : IsRel w va xs) : Calls Tryd.prog 19 #[vt, va] w (VldRet ty xs w) := by
  obtain ⟨pt, pc, rfl, ht', hmt, hmt2, hmt3⟩ := ht
  replace ht : IsInts w (.slice pt ty.length pc) ty := ⟨_, _, rfl, ht', hmt, hmt2, hmt3⟩
  obtain ⟨pa, ca, rfl, hma⟩ := ha.shape
  clear ht'
  go_enter Tryd.func19, Tryd.ntmps19
  go_wp2
  go_loopg [11] xs.length (fun g vi wr => ∃ i : Nat, vi = .int .i64 i ∧ i ≤ xs.length ∧ xs.length - i ≤ g ∧ Hid (GoodR ty (rows (xs.take i))) ∧ Below w.heap.size w wr)
  case atStart => exact ⟨0, rfl, Nat.zero_le _, Nat.le_refl _, Lib.hid (goodR_nil ty), Below.refl _ _⟩
  case round =>
    obtain ⟨i, rfl, hi, hg, V, B⟩ := hrel
    by_cases hlt : i < xs.length
    · have hltz : (i : Int) < (xs.length : Int) := by omega
      obtain ⟨x, hx⟩ := getElem_of_lt hlt
      obtain ⟨b, off, e, c0, c1, rx⟩ := (ha.keep B).at_ hx
      cases e
      go_upto_region 4 with fail
      have BA := below_new wr (.cells #[x.av, x.wv] 44)
      have X := Cel.new wr 44 [x.av, x.wv]
      obtain ⟨wA, hwA⟩ : ∃ z, wr.alloc (.cells #[x.av, x.wv] 44) = z := ⟨_, rfl⟩
      have X' : Cel wA wr.heap.size 44 [x.av, x.wv] := by rw [← hwA]; exact X
      rw [hwA] at BA
      rw [hwA]
      clear hwA X
      have hAi := (ha.keep B).keep BA
      obtain ⟨q, HQ⟩ : ∃ q : Bool, Hid (q = false ↔ (x.t.length = ty.length ∧ OkW x.s ∧ ∀ p, 0 < i → xs[i - 1]? = some p → cmpT p.t x.t < 0)) := bool_of _
      have HX := Lib.hid hx
      clear hx c0 c1
      have y0 := X'.at_ (j := 0) rfl
      have y1 := X'.at_ (j := 1) rfl
      have rA := rx.keep BA
      have hTA := (hT.keep B).keep BA
      go_cut [47] from 16 to 47 (fun v47 wx => v47 = .bool q ∧ Below wA.heap.size wA wx)
      case first =>
        by_cases e1 : x.t.length = ty.length
        · have HE1 := Lib.hid e1
          have z1 : ((List.length x.t : Int) != (ty.length : Int)) = false := by rw [e1]; simp
          clear e1
          by_cases e2 : x.s.length = 0
          · obtain rfl : q = true := by
              cases q with
              | true => rfl
              | false => exact absurd (List.eq_nil_of_length_eq_zero e2) (HQ.out.1 rfl).2.1.1
            have z2 : ((x.s.length : Int) == 0) = true := by rw [e2]; rfl
            clear e2
            go_region
            go_wp2
            go_meet
            case rel => exact ⟨rfl, (Below.refl _ _).drew⟩
          · have z2 : ((x.s.length : Int) == 0) = false := by rw [beq_eq_false_iff_ne]; omega
            have HE2 := Lib.hid e2
            clear e2
            have a_y0 := AftB.cell y0
            have a_y1 := AftB.cell y1
            cases hcv : decide (x.s = canon (setOf x.s))
            · obtain rfl : q = true := by
                cases q with
                | true => rfl
                | false => exact absurd (HQ.out.1 rfl).2.1.2.symm (of_decide_eq_false hcv)
              refine wp_region_aftB (by kernel_rfl) (by kernel_rfl) ?_
              repeat (go_big_quiet_step ((exact validSp_after hTA rA.spans hcv _)))
              refine wpQuiet_nil ?_
              intro w5 B5
              clear a_y0 a_y1
              go_wp2
              go_meet
              case rel => exact ⟨rfl, B5⟩
            · have HOK := Lib.hid (show OkW x.s from ⟨fun e => HE2.out (by rw [e]; rfl), (of_decide_eq_true hcv).symm⟩)
              by_cases hi0 : i = 0
              · subst hi0
                obtain rfl : q = false := HQ.out.2 ⟨HE1.out, HOK.out, fun p h => by omega⟩
                refine wp_region_aftB (by kernel_rfl) (by kernel_rfl) ?_
                repeat (go_big_quiet_step ((exact validSp_after hTA rA.spans hcv _)))
                refine wpQuiet_nil ?_
                intro w5 B5
                clear a_y0 a_y1
                go_wp2
                go_meet
                case rel => exact ⟨rfl, B5⟩
              · obtain ⟨j, rfl⟩ : ∃ j, i = j + 1 := ⟨i - 1, by omega⟩
                obtain ⟨p, hp⟩ := getElem_of_lt (l := xs) (i := j) (by omega)
                obtain ⟨_, _, e, d0, d1, rp⟩ := hAi.at_ hp
                cases e
                obtain ⟨z, hz⟩ : ∃ z, cmpT p.t x.t = z := ⟨_, rfl⟩
                have HZ : Hid (q = decide (0 ≤ z)) := Lib.hid (by
                  rw [Bool.eq_iff_iff, decide_eq_true_iff]
                  constructor
                  · intro hq
                    refine Int.not_lt.1 fun hl => ?_
                    have := HQ.out.2 ⟨HE1.out, HOK.out, fun p' _ hp' => by rw [Nat.add_sub_cancel, hp] at hp'; cases hp'; rw [hz]; exact hl⟩
                    rw [hq] at this; cases this
                  · intro hl
                    cases q with
                    | true => rfl
                    | false => have := (HQ.out.1 rfl).2.2 p (by omega) (by rw [Nat.add_sub_cancel]; exact hp); omega)
                have a_d0 := AftB.cell d0
                have a_d1 := AftB.cell d1
                have k1 : (0 : Int) < (j : Int) + 1 := by omega
                have k2 : (j : Int) < (xs.length : Int) := by omega
                have k3 : (j : Int) + 1 - 1 = (j : Int) := by omega
                have hjw : IntKind.i64.wrap (j : Int) = (j : Int) := by rw [IntKind.wrap_i64]; omega
                clear hp
                refine wp_region_aftB (by kernel_rfl) (by kernel_rfl) ?_
                repeat (go_big_quiet_step ((first | exact validSp_after hTA rA.spans hcv _ | exact byArgs_aftB rp rA _)))
                refine wpQuiet_nil ?_
                intro w5 B5
                clear a_y0 a_y1 a_d0 a_d1
                rw [hz, ← HZ.out]
                go_wp2
                go_meet
                case rel => exact ⟨rfl, B5⟩
        · obtain rfl : q = true := by
            cases q with
            | true => rfl
            | false => exact absurd (HQ.out.1 rfl).1 e1
          have z1 : ((List.length x.t : Int) != (ty.length : Int)) = true := by rw [bne_iff_ne]; omega
          clear e1
          go_region
          go_wp2
          go_meet
          case rel => exact ⟨rfl, (Below.refl _ _).drew⟩
      case rest =>
        obtain ⟨rfl, B5⟩ := hcut
        have B25 := B.trans ((BA.trans (B5.mono BA.size)).mono B.size)
        replace y0 := cell_keep B5 y0
        have rA5 := rA.keep B5
        have hT5 := hT.keep B25
        cases q with
        | true =>
          have RES := Lib.hid (show ¬ GoodR ty (rows xs) from fun g => by
            have h := HQ.out.2 ⟨(g.1 x.rw (mem_rows.2 ⟨x, List.mem_of_getElem? HX.out, rfl⟩)).1, g.2.2 x.rw (mem_rows.2 ⟨x, List.mem_of_getElem? HX.out, rfl⟩), fun p h0 hp => up_next g.2.1 hp (by rw [show i - 1 + 1 = i by omega]; exact HX.out)⟩
            cases h)
          clear hAi y1 rA rA5 hTA
          go_wp2
          go_ret
          exact VldRet.no RES.out B25
        | false =>
          have HG := Lib.hid (HQ.out.1 rfl)
          obtain ⟨nx, hnx⟩ : ∃ nx, x.t.length = nx := ⟨_, rfl⟩
          obtain ⟨xp, xc, hxv, hmv⟩ : ∃ xp xc, x.av = .slice xp nx xc ∧ nx ≤ 9223372036854775807 := by
            obtain ⟨a, c, e, _, hm⟩ := rA5.vals
            exact ⟨a, c, by rw [e, hnx], by omega⟩
          have hv5 := rA5.vals
          rw [hxv] at y0 hv5
          have HXV := Lib.hid hxv
          have HNX := Lib.hid hnx
          have hnty : nx = ty.length := by rw [← hnx]; exact HG.out.1
          have hn1 : nx ≤ ty.length := by omega
          have hn2 : ty.length ≤ nx := by omega
          clear hAi y1 rA rA5 hTA hxv hnx hnty
          go_wp2
          go_loopg [51] nx (fun g vi wq => ∃ k : Nat, vi = .int .i64 k ∧ k ≤ nx ∧ nx - k ≤ g ∧ Hid (TypedTo ty x.t k) ∧ Below wc.heap.size wc wq)
          case atStart => exact ⟨0, rfl, Nat.zero_le _, Nat.le_refl _, Lib.hid ⟨HG.out.1, fun i _ _ h => by omega⟩, Below.refl _ _⟩
          case round =>
            obtain ⟨k, rfl, hk, hg2, VT, Bk⟩ := hrel
            have Bwk := B25.trans (Bk.mono B25.size)
            by_cases hlk : k < nx
            · have hlkz : (k : Int) < (nx : Int) := by omega
              have hlty : (k : Int) < (ty.length : Int) := by omega
              obtain ⟨y, hy⟩ := getElem_of_lt (l := x.t) (i := k) (by have := HNX.out; omega)
              obtain ⟨τ, hτ⟩ := getElem_of_lt (l := ty) (i := k) (by omega)
              have hvk := hv5.keep Bk
              obtain ⟨_, _, e, hvr, -⟩ := hvk
              injection e with e1 e2 e3
              subst e1 e3
              obtain ⟨vb, vo, rfl, d0, d1, d2⟩ := vals_at hvr hy
              obtain ⟨tb, tof, rfl, g0⟩ := (ht.keep Bwk).at_ hτ
              have VY := Lib.hid (fun (h1 : y.t = τ) (h2 : validV y = true) => (show TypedTo ty x.t (k + 1) from ⟨HG.out.1, fun i x' y' hi hx' hy' => by
                rcases Nat.lt_or_eq_of_le (Nat.le_of_lt_succ hi) with hi | rfl
                · exact VT.out.2 i x' y' hi hx' hy'
                · rw [hτ] at hx'; rw [hy] at hy'; cases hx'; cases hy'; exact ⟨h1, h2⟩⟩))
              have VN := Lib.hid (fun (h : ¬ (y.t = τ ∧ validV y = true)) => bad_row (ty := ty) HX.out (.inl fun g => h (g.2 k τ y hτ hy)))
              clear hy hτ hvr e2
              go_upto_region 9 with fail
              have BC := below_new wr (.cells #[.int .i64 y.t, .int .i64 y.n, strV y.s] 58)
              have Z := Cel.new wr 58 [.int .i64 y.t, .int .i64 y.n, strV y.s]
              obtain ⟨wC, hwC⟩ : ∃ z, wr.alloc (.cells #[.int .i64 y.t, .int .i64 y.n, strV y.s] 58) = z := ⟨_, rfl⟩
              have Z' : Cel wC wr.heap.size 58 [.int .i64 y.t, .int .i64 y.n, strV y.s] := by rw [← hwC]; exact Z
              rw [hwC] at BC
              rw [hwC]
              clear hwC Z d0 d1 d2
              replace g0 := cell_keep BC g0
              have z0 := Z'.at_ (j := 0) rfl
              have z1 := Z'.at_ (j := 1) rfl
              have z2 := Z'.at_ (j := 2) rfl
              have BwC := Bwk.trans (BC.mono Bwk.size)
              have hTC := hT.keep BwC
              by_cases hyt : y.t = τ
              · cases hvy : validV y
                · have RES := Lib.hid (VN.out fun h => by rw [hvy] at h; cases h.2)
                  have e0 : (y.t != τ) = false := by rw [hyt]; simp
                  clear hyt VY VN
                  have a0 := AftB.cell z0
                  have a1 := AftB.cell z1
                  have a2 := AftB.cell z2
                  have a3 := AftB.cell g0
                  refine wp_region_aftB (by kernel_rfl) (by kernel_rfl) ?_
                  repeat (go_big_quiet_step ((exact validV_aftB hTC hvy _)))
                  refine wpQuiet_nil ?_
                  intro w6 B6
                  clear a0 a1 a2 a3
                  go_wp2
                  go_ret
                  exact VldRet.no RES.out (BwC.trans (B6.mono BwC.size))
                · have VS := Lib.hid (VY.out hyt hvy)
                  have e0 : (y.t != τ) = false := by rw [hyt]; simp
                  clear hyt VY VN
                  have a0 := AftB.cell z0
                  have a1 := AftB.cell z1
                  have a2 := AftB.cell z2
                  have a3 := AftB.cell g0
                  refine wp_region_aftB (by kernel_rfl) (by kernel_rfl) ?_
                  repeat (go_big_quiet_step ((exact validV_aftB hTC hvy _)))
                  refine wpQuiet_nil ?_
                  intro w6 B6
                  clear a0 a1 a2 a3
                  go_wp2
                  go_roundg (nx - (k + 1))
                  case measure => omega
                  case rel => exact ⟨k + 1, by go_num, hlk, Nat.le_refl _, VS, Bk.trans ((BC.trans (B6.mono BC.size)).mono Bk.size)⟩
              · have RES := Lib.hid (VN.out fun h => hyt h.1)
                have e0 : (y.t != τ) = true := by rw [bne_iff_ne]; exact hyt
                clear hyt VY VN
                go_region
                have B6 : Below wC.heap.size wC wC.drew := (Below.refl _ _).drew
                generalize World.drew _ = w6 at B6 ⊢
                go_wp2
                go_ret
                exact VldRet.no RES.out (BwC.trans (B6.mono BwC.size))
            · have hlkz : ¬ (k : Int) < (nx : Int) := by omega
              have VS := Lib.hid (good_step V.out HX.out ⟨HG.out.1, fun i' x' y' hx' hy' => VT.out.2 i' x' y' (by have := (List.getElem?_eq_some_iff.1 hx').1; omega) hx' hy'⟩ HG.out.2.1 HG.out.2.2)
              go_wp2
              go_roundg (xs.length - (i + 1))
              case measure => omega
              case rel => exact ⟨i + 1, by go_num, hlt, Nat.le_refl _, VS, Bwk⟩
    · have hltz : ¬ (i : Int) < (xs.length : Int) := by omega
      have RES := Lib.hid (show GoodR ty (rows xs) by have := V.out; rwa [List.take_of_length_le (by omega)] at this)
      go_wp2
      go_ret
      exact VldRet.yes RES.out B
end Go.Proofs.YtdibijhaiaiifaaDoor
