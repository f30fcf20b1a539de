/- The walk of At. -/
import Derived.Test.YtdibijhaiaiifaaDoorFil
namespace Go.Proofs.YtdibijhaiaiifaaDoor
open Go.RowKit
/-- A tuple in memory. -/
structure TT where
  p : Option Addr
  c : Nat
  t : Tp
abbrev TT.v (x : TT) : Value := .slice x.p x.t.length x.c
def encTT (x : TT) : List Value := [x.v]
def TupOk (w : World) (x : TT) : Prop := IsVals w x.v x.t
theorem tupOk_keep (w w' : World) (x : TT) (h : Below w.heap.size w w') (k : TupOk w x) : TupOk w' x := IsVals.keep k h
theorem encsT : Encs 1 encTT := ⟨fun _ => rfl, fun x u hu => by unfold encTT at hu; simp at hu; subst hu; rfl⟩
theorem fitsT : Fits 36 25 1 24 (.slice none 0 0) := ⟨Tryd.underlying36, by kernel_rfl, by kernel_rfl, by decide, by decide⟩
def IsTups (w : World) (v : Value) (ts : List TT) : Prop := IsRows 1 encTT w v ts ∧ ∀ x ∈ ts, TupOk w x
theorem IsTups.keep {w w' : World} {v : Value} {ts : List TT} (h : IsTups w v ts) (hb : Below w.heap.size w w') : IsTups w' v ts := ⟨h.1.keep (keeps_below hb), fun x hx => tupOk_keep w w' x hb (h.2 x hx)⟩
theorem IsTups.shape {w : World} {v : Value} {ts : List TT} (h : IsTups w v ts) : ∃ a c, v = .slice a ts.length c ∧ ts.length ≤ 9223372036854775807 ∧ ts.length ≤ c ∧ c ≤ 9223372036854775807 := by
  obtain ⟨⟨a, c, e, _, hm⟩, _⟩ := h
  exact ⟨a, c, e, hm⟩
theorem IsTups.at_ {w : World} {a : Option Addr} {n c : Nat} {ts : List TT} (h : IsTups w (.slice a n c) ts) {i : Nat} {x : TT} (hi : ts[i]? = some x) : ∃ b off, a = some ⟨b, off, none⟩ ∧ w.cell? ⟨b, off + i, none⟩ = some x.v ∧ TupOk w x := by
  obtain ⟨⟨a', c', e, hr, hm⟩, h2⟩ := h
  injection e with e1 e2 e3
  subst e1
  obtain ⟨b, off, ha, hc⟩ := hr.at_ hi
  have := hc i x hi 0 _ rfl
  exact ⟨b, off, ha, by simpa using this, h2 x (List.mem_of_getElem? hi)⟩
theorem Hold.tups {w : World} {base : Nat} {v : Value} {l : List TT} {ex : Nat → Prop} (h : Hold 1 25 encTT TupOk ex w base v l) (hm : l.length ≤ 9223372036854775807) : IsTups w v l := ⟨h.1.is encsT hm, fun x hx => Off.here (h.2 x hx)⟩
/-- The tuples at a moment. -/
def AtOf (xs : List RR) (m : Int) (l : List Tp) : Prop := ∃ ys, CanOf xs ys ∧ l = (ys.filter fun y => inSet y.s m).map (·.t)
theorem at1_any (x : RR) (b3 : Nat) (m : Int) (w : World) (hx : RowOk w x) (hb : w.cell? ⟨b3, 0, none⟩ = some (.int .i64 m)) :
    Calls Tryd.prog 88 #[rowV x, .pointer (some ⟨b3, 0, none⟩)] w fun e w' => e = .returned (.bool (inSet x.s m)) ∧ Below w.heap.size w w' := by
  unfold rowV
  have BA := below_new w (.cells #[x.av, x.wv] 44)
  have X := Cel.new w 44 [x.av, x.wv]
  go_enter Tryd.func88, Tryd.ntmps88
  go_upto_region 1 with fail
  obtain ⟨wA, hwA⟩ : ∃ z, w.alloc (.cells #[x.av, x.wv] 44) = z := ⟨_, rfl⟩
  have X' : Cel wA w.heap.size 44 [x.av, x.wv] := by rw [← hwA]; exact X
  rw [hwA] at BA
  rw [hwA]
  clear hwA X
  have q1 := X'.at_ (j := 1) rfl
  replace hb := cell_keep BA hb
  have rA := hx.keep BA
  go_wp2_with fail
  refine (Has_any _ x.s m _ rA.2).mono ?_
  rintro e w1 ⟨rfl, B1⟩
  go_wp2
  go_ret
  exact ⟨rfl, below_trans BA B1⟩
set_option maxHeartbeats 4000000 in
set_option maxRecDepth 1000000 in
theorem AtR_any (va : Value) (xs : List RR) (m : Int) (w : World) (hT : Tab w) (ha : IsRel w va xs) (sa : Sml 10000 xs) :
    Calls Tryd.prog 36 #[va, .int .i64 m] w fun e w' => ∃ u, e = .returned u ∧ ∃ ts, IsTups w' u ts ∧ Hid (AtOf xs m (ts.map (·.t))) ∧ ts.length ≤ xs.length ∧ Below w.heap.size w w' := by
  have HS := Lib.hid sa
  have B1 := below_new w (.cells #[.int .i64 m] 3)
  have X := Cel.new w 3 [.int .i64 m]
  go_enter Tryd.func36, Tryd.ntmps36
  go_upto_region 1 with fail
  obtain ⟨w1, hw1⟩ : ∃ z, w.alloc (.cells #[.int .i64 m] 3) = z := ⟨_, rfl⟩
  have X' : Cel w1 w.heap.size 3 [.int .i64 m] := by rw [← hw1]; exact X
  rw [hw1] at B1
  rw [hw1]
  clear hw1 X
  obtain ⟨b3, hb3⟩ : ∃ b3, w.heap.size = b3 := ⟨_, rfl⟩
  rw [hb3] at X'
  rw [hb3]
  clear hb3
  go_wp2_with fail
  refine (canonical_any va xs _ (hT.keep B1) (ha.keep B1) sa).mono ?_
  rintro e w2 ⟨ua, rfl, al, Ra, Ca, B2⟩
  have hal : al.length ≤ xs.length := (Ca.sml xs.length ⟨Nat.le_refl _, sa.each⟩).len
  have hxl := sa.len
  have HC := Lib.hid Ca
  have R2 := Ra.rel
  obtain ⟨pa, ca, rfl, -⟩ := R2.shape
  clear sa Ca Ra ha
  have X2 := X'.keep B2
  go_wp2_with fail
  refine (filter_any 88 ⟨b3, 0, none⟩ (fun x => inSet x.s m) _ al _ (enters_of Tryd.func88 (by kernel_rfl) rfl) (fun W hW x hx => at1_any x b3 m W ((R2.2 x hx).keep hW) (cell_keep hW (X2.at_ (j := 0) rfl))) R2 (by omega)).mono ?_
  rintro e w3 ⟨uf, rfl, R3, B3⟩
  obtain ⟨L, HL⟩ : ∃ L, Hid (al.filter (fun x => inSet x.s m) = L) := ⟨_, Lib.hid rfl⟩
  have hLl : L.length ≤ al.length := by rw [← HL.out]; exact List.length_filter_le _ _
  rw [HL.out] at R3
  obtain ⟨pf, cf, rfl, -⟩ := R3.shape
  replace B3 := below_trans B1 (below_trans B2 B3)
  clear R2 B1 B2 X' X2
  go_wp2
  go_loopg [5, 13] L.length (fun g v5 vi wr => ∃ (i : Nat) (out : List TT), vi = .int .i64 i ∧ i ≤ L.length ∧ L.length - i ≤ g ∧ Hid (out.map (·.t) = (L.take i).map (·.t)) ∧ out.length = i ∧ Hold 1 25 encTT TupOk noB wr w3.heap.size v5 out ∧ Below w3.heap.size w3 wr)
  case atStart => exact ⟨0, [], rfl, Nat.zero_le _, Nat.le_refl _, Lib.hid (by simp), rfl, Hold.nil _ _, Below.refl _ _⟩
  case round =>
    obtain ⟨i, out, rfl, hi, hg, V, hoi, H5, B⟩ := hrel
    have HO := Lib.hid hoi
    obtain ⟨p5, c5, rfl⟩ := H5.form
    have hol : out.length ≤ 1000000 := by omega
    clear hoi
    by_cases hlt : i < L.length
    · have hltz : (i : Int) < (L.length : Int) := by omega
      obtain ⟨x, hx⟩ := getElem_of_lt hlt
      obtain ⟨b, off, e, c0, c1, -⟩ := (R3.keep B).at_ hx
      cases e
      have rx := R3.2 x (List.mem_of_getElem? hx)
      have VN := Lib.hid (show (out ++ [(⟨x.pa, x.ca, x.t⟩ : TT)]).map (·.t) = (L.take (i + 1)).map (·.t) by rw [take_succ' hx, List.map_append, List.map_append, V.out]; rfl)
      clear hx
      go_upto_region 5 with fail
      have BA := below_new wr (.cells #[x.av, x.wv] 44)
      have X := Cel.new wr 44 [x.av, x.wv]
      obtain ⟨wA, hwA⟩ : ∃ z, wr.alloc (.cells #[x.av, x.wv] 44) = z := ⟨_, rfl⟩
      have X' : Cel wA wr.heap.size 44 [x.av, x.wv] := by rw [← hwA]; exact X
      rw [hwA] at BA
      rw [hwA]
      clear hwA X c0 c1
      have q0 := X'.at_ (j := 0) rfl
      have H6 := H5.keep BA
      have B6 := B.trans (BA.mono B.size)
      have hm : IsRows 1 encTT (wA.alloc (.cells #[x.av] 25)) (.slice (some ⟨wA.heap.size, 0, none⟩) 1 1) [⟨x.pa, x.ca, x.t⟩] := IsRows.lit wA [_] encsT (by simp)
      have B7 := below_new wA (.cells #[x.av] 25)
      have hmo : ∀ u ∈ [(⟨x.pa, x.ca, x.t⟩ : TT)], Off TupOk (wA.alloc (.cells #[x.av] 25)) (Ex (.slice p5 out.length c5) noB) u := fun u hu => by
        rw [List.mem_singleton.1 hu]
        refine Off.old (w := w3) (fun a b => tupOk_keep a b _) rx.1 (B6.trans (B7.mono B6.size)) fun k hk => ?_
        rcases hk with hk | hk
        · exact (H6.1.lt k hk).1
        · exact hk.elim
      go_wp2_with (at_builtin; refine wpList_hold fitsT encsT rfl _ _ rfl rfl rfl H6 B7 hm hmo B6.size hol (by simp) ?_; intro p9 c9 w9 H9 B9 hG9; rw [show (out ++ [(⟨x.pa, x.ca, x.t⟩ : TT)]).length = out.length + 1 by simp] at H9)
      go_roundg (L.length - (i + 1))
      case measure => omega
      case rel => exact ⟨i + 1, out ++ [(⟨x.pa, x.ca, x.t⟩ : TT)], by go_num, hlt, Nat.le_refl _, VN, by rw [List.length_append, HO.out]; rfl, H9, B6.trans B9⟩
    · have hltz : ¬ (i : Int) < (L.length : Int) := by omega
      have RES := Lib.hid (show out.map (·.t) = L.map (·.t) by rw [V.out, List.take_of_length_le (by omega)])
      have RT := H5.tups (by omega)
      go_wp2
      go_ret
      exact ⟨_, rfl, out, RT, Lib.hid ⟨al, HC.out, by rw [RES.out, HL.out]⟩, by rw [HO.out]; omega, B3.trans (B.mono B3.size)⟩
end Go.Proofs.YtdibijhaiaiifaaDoor
