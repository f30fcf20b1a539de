/- Parts Vals, Xa, Xb, Xc: words, walks and laws that the claims of this seat share. -/
import Derived.Test.YtdibijhaiaiifaaDoorJ4
import Derived.Shelf.SlSortCmp.KitK
import Derived.Deep.Cut
import Derived.Deep.CutRange
import Derived.Deep.LoopGhost
import Derived.Lib.ConvBytes
/- Words for memory: values, tuples, rows; worlds that a call that only reads leaves; a region that draws its order and only reads, walked once. -/
namespace Go.Proofs.YtdibijhaiaiifaaDoor
open Go.RowKit
/-! ### values -/
def encB (c : UInt8) : List Value := [.int .u8 c.toNat]
def IsBytes (w : World) (v : Value) (l : List UInt8) : Prop := IsRows 1 encB w v l
def encVl (x : Vl) : List Value := [.int .i64 x.t, .int .i64 x.n, strV x.s]
def valV (x : Vl) : Value := .agg #[.int .i64 x.t, .int .i64 x.n, strV x.s]
def IsVals (w : World) (v : Value) (l : Tp) : Prop := IsRows 3 encVl w v l
theorem IsVals.keep {w w' : World} {v : Value} {l : Tp} (h : IsVals w v l) (hb : Below w.heap.size w w') : IsVals w' v l := IsRows.keep h (keeps_below hb)
theorem IsVals.nil (w : World) : IsVals w (.slice none 0 0) [] := ⟨none, 0, rfl, .inl rfl, by simp, by simp, by simp⟩
theorem IsSpans.nil (w : World) : IsSpans w (.slice none 0 0) [] := ⟨none, 0, rfl, .inl rfl, by simp, by simp, by simp⟩
theorem vals_at {w : World} {a : Option Addr} {l : Tp} (h : RowsAt 3 encVl w a l) {i : Nat} {x : Vl} (hi : l[i]? = some x) :
    ∃ b off, a = some ⟨b, off, none⟩ ∧ w.cell? ⟨b, off + i * 3, none⟩ = some (.int .i64 x.t) ∧ w.cell? ⟨b, off + i * 3 + 1, none⟩ = some (.int .i64 x.n) ∧ w.cell? ⟨b, off + i * 3 + 2, none⟩ = some (strV x.s) := by
  obtain ⟨b, off, ha, hc⟩ := h.at_ hi
  have hc := hc i x hi
  exact ⟨b, off, ha, hc 0 _ rfl, hc 1 _ rfl, hc 2 _ rfl⟩
/-! ### worlds behind a call that only reads -/
/-- Some draws, some blocks laid behind. -/
def Grew (w w' : World) : Prop := ∃ n os, w' = Go.Sort.grow (w.drewN n) os
theorem Grew.refl (w : World) : Grew w w := ⟨0, #[], by rw [Go.Sort.grow_empty]; rfl⟩
theorem Grew.drewN {w w' : World} (h : Grew w w') (k : Nat) : Grew w (w'.drewN k) := by
  obtain ⟨n, os, rfl⟩ := h
  exact ⟨n + k, os, by rw [← World.drewN_drewN]; rfl⟩
theorem Grew.drew {w w' : World} (h : Grew w w') : Grew w w'.drew := h.drewN 1
theorem Grew.alloc {w w' : World} (h : Grew w w') (o : Obj) : Grew w (w'.alloc o) := by
  obtain ⟨n, os, rfl⟩ := h
  exact ⟨n, os ++ #[o], by rw [Go.Sort.alloc_eq_grow, Go.Sort.grow_grow]⟩
theorem Grew.trans {a b c : World} (h : Grew a b) (k : Grew b c) : Grew a c := by
  obtain ⟨n, os, rfl⟩ := h
  obtain ⟨m, os', rfl⟩ := k
  exact ⟨n + m, os ++ os', by rw [← World.drewN_drewN]; show Go.Sort.grow (Go.Sort.grow ((a.drewN n).drewN m) os) os' = _; rw [Go.Sort.grow_grow]⟩
theorem Grew.below {w w' : World} (h : Grew w w') : Below w.heap.size w w' := by
  obtain ⟨n, os, rfl⟩ := h
  refine ⟨rfl, rfl, rfl, by rw [Go.Sort.size_grow]; exact Nat.le_add_right _ _, fun i hi => ?_⟩
  show (w.heap ++ os)[i]? = w.heap[i]?
  rw [Array.getElem?_append_left hi]
structure After (w : World) where
  w' : World
  ok : Grew w w'
instance (w : World) : Inhabited (After w) := ⟨⟨w, Grew.refl w⟩⟩
theorem After.cell {w : World} {a : Addr} {v : Value} (h : w.cell? a = some v) : ∀ p : After w, p.w'.cell? a = some v := fun p => cell_keep p.ok.below h
theorem After.call {w : World} {f : FuncId} {args : Array Value} {v : Value} {p : After w} (h : Calls Tryd.prog f args p.w' fun e w' => e = .returned v ∧ Grew p.w' w') : Calls Tryd.prog f args p.w' fun e w'' => e = .returned v ∧ ∃ q : After w, w'' = q.w' :=
  h.mono fun _ w'' ⟨he, hg⟩ => ⟨he, ⟨w'', p.ok.trans hg⟩, rfl⟩
theorem wp_region_after {id : Nat} {Q : Exit → Act → World → Prop} {a : Act} {w : World} {l : List Oper} (hm : Tryd.prog.follows .mixedOrders = true) (hB : Region.lexB .any l.toArray = true)
    (h : wpQuiet Tryd.prog l.toArray (fun w' => ∃ p : After w, w' = p.w') (fun a' => ∀ w', Grew w w' → Q .normal a' w') l a) : (Code.region id l.toArray true).wp Tryd.prog Q a w :=
  wp_region_quiet (C := fun w' => ∃ p : After w, w' = p.w') hm hB ⟨⟨w.drew, (Grew.refl w).drew⟩, rfl⟩ (by
    have e : (fun a' => ∀ w', Grew w w' → Q .normal a' w') = fun a' => ∀ w', (∃ p : After w, w' = p.w') → Q .normal a' w' := by
      funext a'
      refine propext ⟨fun h w' ⟨p, hp⟩ => by subst hp; exact h _ p.ok, fun h w' hg => h w' ⟨⟨w', hg⟩, rfl⟩⟩
    rw [← e]; simpa using h)
/-! ### comparisons -/
theorem isNaN_any (a : Int) (w : World) : Calls Tryd.prog 137 #[.int .i64 a] w fun e w' => e = .returned (.bool false) ∧ w = w' := by
  have h : (a != a) = false := by simp
  go_enter Tryd.func137, Tryd.ntmps137
  go_wp2
  go_ret
  exact ⟨rfl, rfl⟩
theorem cmpI_any (a b : Int) (w : World) : Calls Tryd.prog 115 #[.int .i64 a, .int .i64 b] w fun e w' => e = .returned (.int .i64 (cmpI a b)) ∧ w = w' := by
  obtain ⟨r, hr⟩ : ∃ r, cmpI a b = r := ⟨_, rfl⟩
  rw [hr]
  by_cases h1 : a < b
  · have : r = -1 := by rw [← hr]; simp [cmpI, h1]
    subst this
    clear hr
    go_enter Tryd.func115, Tryd.ntmps115
    go_wp2_with fail
    refine (isNaN_any _ _).mono ?_
    rintro e w1 ⟨rfl, rfl⟩
    go_wp2_with fail
    refine (isNaN_any _ _).mono ?_
    rintro e w1 ⟨rfl, rfl⟩
    go_wp2
    go_ret
    exact ⟨rfl, rfl⟩
  · by_cases h2 : b < a
    · have : r = 1 := by rw [← hr]; simp [cmpI, h1, h2]
      subst this
      clear hr
      go_enter Tryd.func115, Tryd.ntmps115
      go_wp2_with fail
      refine (isNaN_any _ _).mono ?_
      rintro e w1 ⟨rfl, rfl⟩
      go_wp2_with fail
      refine (isNaN_any _ _).mono ?_
      rintro e w1 ⟨rfl, rfl⟩
      go_wp2
      go_ret
      exact ⟨rfl, rfl⟩
    · have : r = 0 := by rw [← hr]; simp [cmpI, h1, h2]
      subst this
      clear hr
      go_enter Tryd.func115, Tryd.ntmps115
      go_wp2_with fail
      refine (isNaN_any _ _).mono ?_
      rintro e w1 ⟨rfl, rfl⟩
      go_wp2_with fail
      refine (isNaN_any _ _).mono ?_
      rintro e w1 ⟨rfl, rfl⟩
      go_wp2
      go_ret
      exact ⟨rfl, rfl⟩
end Go.Proofs.YtdibijhaiaiifaaDoor
/- The walks of package value's comparisons. -/
namespace Go.Proofs.YtdibijhaiaiifaaDoor
open Go.RowKit
theorem isNaNb_any (a : Int) (w : World) : Calls Tryd.prog 138 #[.int .u8 a] w fun e w' => e = .returned (.bool false) ∧ w = w' := by
  have h : (a != a) = false := by simp
  go_enter Tryd.func138, Tryd.ntmps138
  go_wp2
  go_ret
  exact ⟨rfl, rfl⟩
theorem cmpB8_any (a b : Int) (w : World) : Calls Tryd.prog 118 #[.int .u8 a, .int .u8 b] w fun e w' => e = .returned (.int .i64 (cmpI a b)) ∧ w = w' := by
  obtain ⟨r, hr⟩ : ∃ r, cmpI a b = r := ⟨_, rfl⟩
  rw [hr]
  by_cases h1 : a < b
  · have : r = -1 := by rw [← hr]; simp [cmpI, h1]
    subst this
    clear hr
    go_enter Tryd.func118, Tryd.ntmps118
    go_wp2_with fail
    refine (isNaNb_any _ _).mono ?_
    rintro e w1 ⟨rfl, rfl⟩
    go_wp2_with fail
    refine (isNaNb_any _ _).mono ?_
    rintro e w1 ⟨rfl, rfl⟩
    go_wp2
    go_ret
    exact ⟨rfl, rfl⟩
  · by_cases h2 : b < a
    · have : r = 1 := by rw [← hr]; simp [cmpI, h1, h2]
      subst this
      clear hr
      go_enter Tryd.func118, Tryd.ntmps118
      go_wp2_with fail
      refine (isNaNb_any _ _).mono ?_
      rintro e w1 ⟨rfl, rfl⟩
      go_wp2_with fail
      refine (isNaNb_any _ _).mono ?_
      rintro e w1 ⟨rfl, rfl⟩
      go_wp2
      go_ret
      exact ⟨rfl, rfl⟩
    · have : r = 0 := by rw [← hr]; simp [cmpI, h1, h2]
      subst this
      clear hr
      go_enter Tryd.func118, Tryd.ntmps118
      go_wp2_with fail
      refine (isNaNb_any _ _).mono ?_
      rintro e w1 ⟨rfl, rfl⟩
      go_wp2_with fail
      refine (isNaNb_any _ _).mono ?_
      rintro e w1 ⟨rfl, rfl⟩
      go_wp2
      go_ret
      exact ⟨rfl, rfl⟩
theorem cmpBfn_any (a b : Int) (w : World) : Calls Tryd.prog 117 #[.int .u8 a, .int .u8 b] w fun e w' => e = .returned (.int .i64 (cmpI a b)) ∧ w = w' := by
  go_enter Tryd.func117, Tryd.ntmps117
  go_wp2_with fail
  refine (cmpB8_any _ _ _).mono ?_
  rintro e w1 ⟨rfl, rfl⟩
  go_wp2
  go_ret
  exact ⟨rfl, rfl⟩
section
variable {α : Type} {f : α → α → Int}
theorem cmpL_end {a b : List α} {k : Nat} (hk : k = a.length) (hb : k ≤ b.length) (h : cmpL f (a.drop k) (b.drop k) = cmpL f a b) : cmpI a.length b.length = cmpL f a b := by
  rw [← h, hk, List.drop_length]
  rcases Nat.lt_or_ge a.length b.length with hlt | hge
  · rw [List.drop_eq_getElem_cons hlt]
    simp only [cmpL, cmpI]
    rw [if_pos (by omega)]
  · rw [List.drop_eq_nil_of_le hge]
    simp only [cmpL, cmpI]
    rw [if_neg (by omega), if_neg (by omega)]
theorem cmpL_long {a b : List α} {k : Nat} (hk : k < a.length) (hb : k = b.length) (h : cmpL f (a.drop k) (b.drop k) = cmpL f a b) : cmpL f a b = 1 := by
  rw [← h, hb, List.drop_length, List.drop_eq_getElem_cons (by omega)]
  rfl
theorem cmpL_other {a b : List α} {k : Nat} (hk : k < a.length) (hb : k < b.length) (h : cmpL f (a.drop k) (b.drop k) = cmpL f a b) (hc : ¬ f a[k] b[k] = 0) : cmpL f a b = f a[k] b[k] := by
  rw [← h, List.drop_eq_getElem_cons hk, List.drop_eq_getElem_cons hb, cmpL, if_neg hc]
theorem cmpL_next {a b : List α} {k : Nat} (hk : k < a.length) (hb : k < b.length) (h : cmpL f (a.drop k) (b.drop k) = cmpL f a b) (hc : f a[k] b[k] = 0) : cmpL f (a.drop (k + 1)) (b.drop (k + 1)) = cmpL f a b := by
  rw [← h, List.drop_eq_getElem_cons hk, List.drop_eq_getElem_cons hb, cmpL, if_pos hc]
end
theorem listsB_any (va vb : Value) (a b : List UInt8) (w : World) (ha : IsBytes w va a) (hb : IsBytes w vb b) :
    Calls Tryd.prog 116 #[va, vb, .func (.func 117) #[] #[]] w fun e w' => e = .returned (.int .i64 (cmpL cmpB a b)) ∧ w = w' := by
  obtain ⟨pa, ca, rfl, ha, hma⟩ := ha
  obtain ⟨pb, cb, rfl, hb, hmb⟩ := hb
  go_enter Tryd.func116, Tryd.ntmps116
  go_wp2
  go_loop [7, 8, 9, 12] (fun _ _ _ i => ∃ k : Nat, k ≤ a.length ∧ k ≤ b.length ∧ i = .int .i64 k ∧ cmpL cmpB (a.drop k) (b.drop k) = cmpL cmpB a b) (fun _ _ _ i => a.length - (intOf i).toNat)
  case atStart => exact ⟨0, Nat.zero_le _, Nat.zero_le _, rfl, rfl⟩
  case round =>
    obtain ⟨k, hk, hkb, rfl, hc⟩ := hrel
    have HC := Lib.hid hc
    clear hc
    by_cases hlt : k < a.length
    · obtain ⟨b1, o1, rfl, c1⟩ := ha.one (List.getElem?_eq_getElem hlt) rfl
      by_cases hlb : k < b.length
      · obtain ⟨b2, o2, rfl, c2⟩ := hb.one (List.getElem?_eq_getElem hlb) rfl
        have hne : ((k : Int) == b.length) = false := by rw [beq_eq_false_iff_ne]; omega
        obtain ⟨r, hr⟩ : ∃ r, cmpI (a[k].toNat : Int) (b[k].toNat : Int) = r := ⟨_, rfl⟩
        by_cases h0 : r = 0
        · have hn := Lib.hid (cmpL_next hlt hlb HC.out (show cmpB a[k] b[k] = 0 from hr.trans h0))
          subst h0
          generalize a[k] = x at *
          generalize b[k] = y at *
          go_wp2_with fail
          refine (cmpBfn_any _ _ _).mono ?_
          rintro e w1 ⟨rfl, rfl⟩
          rw [hr]
          clear hr
          go_wp2
          go_round
          case rel => exact ⟨k + 1, by omega, by omega, by go_num, hn.out⟩
          case measure => simp [intOf]; omega
        · have hn := Lib.hid (cmpL_other hlt hlb HC.out (show ¬ cmpB a[k] b[k] = 0 from fun e => h0 (hr.symm.trans e)))
          have hE : cmpB a[k] b[k] = r := hr
          rw [hE] at hn
          clear hE
          have hr0 : (r != 0) = true := by simpa using h0
          generalize a[k] = x at *
          generalize b[k] = y at *
          go_wp2_with fail
          refine (cmpBfn_any _ _ _).mono ?_
          rintro e w1 ⟨rfl, rfl⟩
          rw [hr]
          clear hr h0
          go_wp2
          go_ret
          exact ⟨by rw [hn.out]; rfl, rfl⟩
      · have hkl : k = b.length := by omega
        have hn := Lib.hid (cmpL_long hlt hkl HC.out)
        have hne : ((k : Int) == b.length) = true := by rw [beq_iff_eq]; omega
        generalize a[k] = x at *
        clear hkl
        go_wp2
        go_ret
        exact ⟨by rw [hn.out]; rfl, rfl⟩
    · have hn := Lib.hid (cmpL_end (f := cmpB) (show k = a.length by omega) hkb HC.out)
      go_wp2_with fail
      refine (cmpI_any _ _ _).mono ?_
      rintro e w1 ⟨rfl, rfl⟩
      rw [hn.out]
      go_wp2
      go_ret
      exact ⟨rfl, rfl⟩
end Go.Proofs.YtdibijhaiaiifaaDoor
/- The walks of package value's Compare and CompareTuple. -/
namespace Go.Proofs.YtdibijhaiaiifaaDoor
open Go.RowKit
theorem grew_bytes (w : World) (s : ByteArray) : Grew w (Lib.bytesWorld w 5 s) := by
  refine ⟨1, #[.cells (Lib.bytesCells w 5 s) 5 ((Lib.bytesCells w 5 s).size, (Lib.bytesCells w 5 s).size + 1)], ?_⟩
  have hh : (Lib.bytesWorld w 5 s).heap = w.heap ++ #[.cells (Lib.bytesCells w 5 s) 5 ((Lib.bytesCells w 5 s).size, (Lib.bytesCells w 5 s).size + 1)] := by
    apply Array.ext_getElem?
    intro i
    rcases Nat.lt_trichotomy i w.heap.size with h | h | h
    · rw [Lib.bytesWorld_at_old w 5 s i h, Array.getElem?_append_left h]
    · subst h
      rw [Lib.bytesWorld_at_new, Array.getElem?_append_right (Nat.le_refl _)]; simp
    · rw [Array.getElem?_eq_none (by rw [Lib.bytesWorld_size]; omega), Array.getElem?_eq_none (by simp; omega)]
  have e : Lib.bytesWorld w 5 s = { w.drew with heap := (Lib.bytesWorld w 5 s).heap } := by
    unfold Lib.bytesWorld World.freeze
    rw [if_neg (by decide)]
    rfl
  rw [e, hh]
  rfl
theorem bytes_conv (w : World) (l : List UInt8) (hl : l.length ≤ 9223372036854775807) : ∃ c, (convert 9 117 (strV l)).run Tryd.prog w = .ok (.slice (some ⟨w.heap.size, 0, none⟩) l.length c) (Lib.bytesWorld w 5 ⟨l.toArray⟩) ∧ IsBytes (Lib.bytesWorld w 5 ⟨l.toArray⟩) (.slice (some ⟨w.heap.size, 0, none⟩) l.length c) l := by
  have h := Lib.run_convert_string_bytes (P := Tryd.prog) w 9 117 5 ⟨l.toArray⟩ Tryd.underlying9 Tryd.underlying117 Tryd.underlying5
  have hs : (ByteArray.mk l.toArray).size = l.length := by simp [ByteArray.size]
  rw [hs] at h
  refine ⟨_, h, _, _, rfl, .inr ⟨_, 0, rfl, fun i x hi j u hj => ?_⟩, hl, grownCap_ge w _ 0 5, grownCap_le_maxLen w _ 0 5 hl⟩
  have hj0 : j = 0 := by
    rcases j with _ | j
    · rfl
    · simp [encB] at hj
  subst hj0
  obtain rfl : Value.int .u8 x.toNat = u := by simpa [encB] using hj
  have hlt : i < l.length := (List.getElem?_eq_some_iff.1 hi).1
  have := Lib.bytesWorld_cell w 5 ⟨l.toArray⟩ i (by rw [hs]; exact hlt)
  rw [show (0 : Nat) + i * 1 + 0 = i from by omega, this]
  have hx : l[i] = x := by rw [List.getElem?_eq_getElem hlt] at hi; exact Option.some.inj hi
  simp [hlt, hx]
theorem cmpV_one {a b : Vl} {r : Int} (h : cmpI a.t b.t = r) (hr : ¬ r = 0) : cmpV a b = r := by unfold cmpV; rw [h, if_neg hr]
theorem cmpV_two {a b : Vl} {r : Int} (h0 : cmpI a.t b.t = 0) (h : cmpI a.n b.n = r) (hr : ¬ r = 0) : cmpV a b = r := by unfold cmpV; rw [h0, h, if_pos rfl, if_neg hr]
theorem cmpV_three {a b : Vl} (h0 : cmpI a.t b.t = 0) (h : cmpI a.n b.n = 0) : cmpV a b = cmpL cmpB a.s b.s := by unfold cmpV; rw [h0, h, if_pos rfl, if_pos rfl]
theorem cells3 (w : World) (x y z : Value) (t : TypeId) : (w.alloc (.cells #[x, y, z] t)).cell? ⟨w.heap.size, 0, none⟩ = some x ∧ (w.alloc (.cells #[x, y, z] t)).cell? ⟨w.heap.size, 1, none⟩ = some y ∧ (w.alloc (.cells #[x, y, z] t)).cell? ⟨w.heap.size, 2, none⟩ = some z := by
  have e : (w.alloc (.cells #[x, y, z] t)).heap[w.heap.size]? = some (.cells #[x, y, z] t) := World.alloc_heap_new w _
  exact ⟨cell_at e rfl, cell_at e rfl, cell_at e rfl⟩
set_option maxHeartbeats 1000000 in
theorem Compare_any (a b : Vl) (w : World) : Calls Tryd.prog 67 #[valV a, valV b] w fun e w' => e = .returned (.int .i64 (cmpV a b)) ∧ Grew w w' := by
  obtain ⟨ta, an, sa, hal⟩ := a
  obtain ⟨tb, bn, sb, hbl⟩ := b
  unfold valV
  obtain ⟨r, hr⟩ : ∃ r, cmpI ta tb = r := ⟨_, rfl⟩
  obtain ⟨q, hq⟩ : ∃ q, cmpI an bn = q := ⟨_, rfl⟩
  have b1 : Grew w ((w.alloc (.cells #[.int .i64 ta, .int .i64 an, strV sa] 58)).alloc (.cells #[.int .i64 tb, .int .i64 bn, strV sb] 58)) := ((Grew.refl w).alloc _).alloc _
  obtain ⟨x0, x1, x2⟩ := cells3 w (.int .i64 ta) (.int .i64 an) (strV sa) 58
  obtain ⟨y0, y1, y2⟩ := cells3 (w.alloc (.cells #[.int .i64 ta, .int .i64 an, strV sa] 58)) (.int .i64 tb) (.int .i64 bn) (strV sb) 58
  have bb := below_new (w.alloc (.cells #[.int .i64 ta, .int .i64 an, strV sa] 58)) (.cells #[.int .i64 tb, .int .i64 bn, strV sb] 58)
  replace x0 := cell_keep bb x0
  replace x1 := cell_keep bb x1
  replace x2 := cell_keep bb x2
  clear bb
  rw [show (w.alloc (.cells #[.int .i64 ta, .int .i64 an, strV sa] 58)).heap.size = w.heap.size + 1 by simp] at y0 y1 y2
  have sz : ((w.alloc (.cells #[.int .i64 ta, .int .i64 an, strV sa] 58)).alloc (.cells #[.int .i64 tb, .int .i64 bn, strV sb] 58)).heap.size = w.heap.size + 2 := by simp
  go_enter Tryd.func67, Tryd.ntmps67
  go_upto_region 1 with fail
  obtain ⟨w0, hw0⟩ : ∃ x : World, x = (w.alloc (.cells #[.int .i64 ta, .int .i64 an, strV sa] 58)).alloc (.cells #[.int .i64 tb, .int .i64 bn, strV sb] 58) := ⟨_, rfl⟩
  rw [← hw0] at x0 x1 x2 y0 y1 y2 b1 sz
  rw [← hw0]
  clear hw0
  have SZ := Lib.hid sz
  clear sz
  go_wp2_with fail
  refine (cmpI_any _ _ _).mono ?_
  rintro e w1 ⟨rfl, rfl⟩
  rw [hr]
  by_cases h0 : r = 0
  · subst h0
    go_wp2_with fail
    refine (cmpI_any _ _ _).mono ?_
    rintro e w1 ⟨rfl, rfl⟩
    rw [hq]
    by_cases h1 : q = 0
    · subst h1
      have HR := Lib.hid (cmpV_three (a := ⟨ta, an, sa, hal⟩) (b := ⟨tb, bn, sb, hbl⟩) hr hq)
      obtain ⟨ca, c1, i1⟩ := bytes_conv w0 sa hal
      obtain ⟨cb, c2, i2⟩ := bytes_conv (Lib.bytesWorld w0 5 ⟨sa.toArray⟩) sb hbl
      have g1 := grew_bytes w0 ⟨sa.toArray⟩
      have g2 := grew_bytes (Lib.bytesWorld w0 5 ⟨sa.toArray⟩) ⟨sb.toArray⟩
      have y3 := cell_keep g1.below y2
      replace i1 := i1.keep (keeps_below g2.below)
      have g := (b1.trans g1).trans g2
      clear g1 g2 hr hq x0 x1 y0 y1 y2 b1
      generalize Lib.bytesWorld (Lib.bytesWorld w0 5 ⟨sa.toArray⟩) 5 ⟨sb.toArray⟩ = w2 at *
      generalize Lib.bytesWorld w0 5 ⟨sa.toArray⟩ = w1 at *
      go_wp2_with fail
      refine (listsB_any _ _ sa sb _ i1 i2).mono ?_
      rintro e w3 ⟨rfl, rfl⟩
      rw [← HR.out]
      go_wp2
      go_ret
      exact ⟨rfl, g⟩
    · have h1' : (q != 0) = true := by simpa using h1
      have HR := Lib.hid (cmpV_two (a := ⟨ta, an, sa, hal⟩) (b := ⟨tb, bn, sb, hbl⟩) hr hq h1)
      clear hr hq h1
      go_wp2
      go_ret
      exact ⟨by rw [HR.out]; rfl, b1⟩
  · have h0' : (r != 0) = true := by simpa using h0
    have HR := Lib.hid (cmpV_one (a := ⟨ta, an, sa, hal⟩) (b := ⟨tb, bn, sb, hbl⟩) hr h0)
    clear hr hq h0
    go_wp2
    go_ret
    exact ⟨by rw [HR.out]; rfl, b1⟩
set_option maxHeartbeats 1000000 in
theorem listsV_any (va vb : Value) (a b : Tp) (w : World) (ha : IsVals w va a) (hb : IsVals w vb b) :
    Calls Tryd.prog 122 #[va, vb, .func (.func 67) #[] #[]] w fun e w' => e = .returned (.int .i64 (cmpT a b)) ∧ Grew w w' := by
  obtain ⟨pa, ca, rfl, ha, hma⟩ := ha
  obtain ⟨pb, cb, rfl, hb, hmb⟩ := hb
  go_enter Tryd.func122, Tryd.ntmps122
  go_wp2
  go_loopw [7, 8, 9, 12] (fun _ _ _ i wr => ∃ k : Nat, k ≤ a.length ∧ k ≤ b.length ∧ i = .int .i64 k ∧ cmpL cmpV (a.drop k) (b.drop k) = cmpT a b ∧ Grew w wr) (fun _ _ _ i _ => a.length - (intOf i).toNat)
  case atStart => exact ⟨0, Nat.zero_le _, Nat.zero_le _, rfl, rfl, Grew.refl _⟩
  case round =>
    obtain ⟨k, hk, hkb, rfl, hc, hg⟩ := hrel
    have HC := Lib.hid hc
    clear hc
    by_cases hlt : k < a.length
    · obtain ⟨b1, o1, rfl, c0, c1, c2⟩ := vals_at (ha.keep (keeps_below hg.below)) (List.getElem?_eq_getElem hlt)
      by_cases hlb : k < b.length
      · obtain ⟨b2, o2, rfl, d0, d1, d2⟩ := vals_at (hb.keep (keeps_below hg.below)) (List.getElem?_eq_getElem hlb)
        have hne : ((k : Int) == b.length) = false := by rw [beq_eq_false_iff_ne]; omega
        obtain ⟨r, hr⟩ : ∃ r, cmpV a[k] b[k] = r := ⟨_, rfl⟩
        have HN1 := Lib.hid (fun h0 : cmpV a[k] b[k] = 0 => cmpL_next hlt hlb HC.out h0)
        have HN2 := Lib.hid (fun h0 : ¬ cmpV a[k] b[k] = 0 => cmpL_other hlt hlb HC.out h0)
        rw [hr] at HN1 HN2
        obtain ⟨x, hx⟩ : ∃ x, x = a[k] := ⟨_, rfl⟩
        obtain ⟨y, hy⟩ : ∃ y, y = b[k] := ⟨_, rfl⟩
        rw [← hx] at c0 c1 c2 hr
        rw [← hy] at d0 d1 d2 hr
        clear hx hy
        have HRR := Lib.hid hr
        clear hr
        go_upto_region 6 with fail
        obtain ⟨e0, e1, e2⟩ := cells3 wr (.int .i64 x.t) (.int .i64 x.n) (strV x.s) 58
        have bB := below_new wr (.cells #[.int .i64 x.t, .int .i64 x.n, strV x.s] 58)
        have gB := hg.alloc (.cells #[.int .i64 x.t, .int .i64 x.n, strV x.s] 58)
        replace d0 := cell_keep bB d0
        replace d1 := cell_keep bB d1
        replace d2 := cell_keep bB d2
        obtain ⟨wB, hwB⟩ : ∃ x1 : World, x1 = wr.alloc (.cells #[.int .i64 x.t, .int .i64 x.n, strV x.s] 58) := ⟨_, rfl⟩
        rw [← hwB] at d0 d1 d2 e0 e1 e2 gB
        rw [← hwB]
        clear hwB bB c0 c1 c2
        replace d0 := After.cell d0
        replace d1 := After.cell d1
        replace d2 := After.cell d2
        replace e0 := After.cell e0
        replace e1 := After.cell e1
        replace e2 := After.cell e2
        refine wp_region_after (by kernel_rfl) (by kernel_rfl) ?_
        repeat (quiet_step ((go_at_call 67; exact After.call (Compare_any x y _))))
        refine wpQuiet_nil ?_
        intro w2 hg2
        rw [HRR.out]
        have g2 := gB.trans hg2
        by_cases h0 : r = 0
        · have HN := Lib.hid (HN1.out h0)
          subst h0
          clear HN1 HN2 e0 e1 e2 d0 d1 d2
          go_wp2
          go_roundw
          case rel => exact ⟨k + 1, by omega, by omega, by go_num, HN.out, g2⟩
          case measure => simp [intOf]; omega
        · have HN := Lib.hid (HN2.out h0)
          have hr0 : (r != 0) = true := by simpa using h0
          clear HN1 HN2 h0 e0 e1 e2 d0 d1 d2
          go_wp2
          go_ret
          exact ⟨by rw [show cmpT a b = r from HN.out]; rfl, g2⟩
      · have hkl : k = b.length := by omega
        have hn := Lib.hid (cmpL_long hlt hkl HC.out)
        have hne : ((k : Int) == b.length) = true := by rw [beq_iff_eq]; omega
        generalize a[k] = x at *
        clear hkl
        go_wp2
        go_ret
        exact ⟨by rw [show cmpT a b = 1 from hn.out]; rfl, hg.alloc _⟩
    · have hn := Lib.hid (cmpL_end (f := cmpV) (show k = a.length by omega) hkb HC.out)
      go_wp2_with fail
      refine (cmpI_any _ _ _).mono ?_
      rintro e w1 ⟨rfl, rfl⟩
      rw [hn.out]
      go_wp2
      go_ret
      exact ⟨rfl, hg⟩
theorem CompareTuple_any (va vb : Value) (a b : Tp) (w : World) (ha : IsVals w va a) (hb : IsVals w vb b) :
    Calls Tryd.prog 77 #[va, vb] w fun e w' => e = .returned (.int .i64 (cmpT a b)) ∧ Grew w w' := by
  go_enter Tryd.func77, Tryd.ntmps77
  go_wp2_with fail
  refine (listsV_any va vb a b _ ha hb).mono ?_
  rintro e w1 ⟨rfl, hg⟩
  go_wp2
  go_ret
  exact ⟨rfl, hg⟩
end Go.Proofs.YtdibijhaiaiifaaDoor
/- The walks of the reference's comparisons of values. -/
namespace Go.Proofs.YtdibijhaiaiifaaDoor
open Go.RowKit
theorem ints_any (a b : Int) (w : World) : Calls Tryd.prog 94 #[.int .i64 a, .int .i64 b] w fun e w' => e = .returned (.int .i64 (cmpI a b)) ∧ w = w' := by
  obtain ⟨r, hr⟩ : ∃ r, cmpI a b = r := ⟨_, rfl⟩
  rw [hr]
  by_cases h1 : a < b
  · have : r = -1 := by rw [← hr]; simp [cmpI, h1]
    subst this
    clear hr
    go_enter Tryd.func94, Tryd.ntmps94
    go_wp2
    go_ret
    exact ⟨rfl, rfl⟩
  · by_cases h2 : b < a
    · have : r = 1 := by rw [← hr]; simp [cmpI, h1, h2]
      subst this
      clear hr
      go_enter Tryd.func94, Tryd.ntmps94
      go_wp2
      go_ret
      exact ⟨rfl, rfl⟩
    · have : r = 0 := by rw [← hr]; simp [cmpI, h1, h2]
      subst this
      clear hr
      go_enter Tryd.func94, Tryd.ntmps94
      go_wp2
      go_ret
      exact ⟨rfl, rfl⟩
section
variable {α : Type} {f : α → α → Int}
/-- Both at hand or one at its end: the lengths decide. -/
theorem cmpL_over {a b : List α} {k : Nat} (hk : k ≤ a.length) (hb : k ≤ b.length) (ho : ¬ (k < a.length ∧ k < b.length)) (h : cmpL f (a.drop k) (b.drop k) = cmpL f a b) : cmpI a.length b.length = cmpL f a b := by
  by_cases h1 : k < a.length
  · have hkb : k = b.length := by omega
    rw [cmpL_long h1 hkb h, cmpI, if_neg (by omega), if_pos (by omega)]
  · exact cmpL_end (by omega) hb h
end
theorem wrap8 (x : UInt8) : IntKind.i64.wrap (x.toNat : Int) = (x.toNat : Int) := by
  have := x.toNat_lt
  rw [IntKind.wrap_i64]; omega
theorem texts_any (a b : List UInt8) (hal : a.length ≤ 9223372036854775807) (w : World) : Calls Tryd.prog 130 #[strV a, strV b] w fun e w' => e = .returned (.int .i64 (cmpL cmpB a b)) ∧ Grew w w' := by
  have sa : (ByteArray.mk a.toArray).size = a.length := by simp [ByteArray.size]
  have sb : (ByteArray.mk b.toArray).size = b.length := by simp [ByteArray.size]
  go_enter Tryd.func130, Tryd.ntmps130
  go_wp2
  go_loopw [5] (fun i wr => ∃ k : Nat, k ≤ a.length ∧ k ≤ b.length ∧ i = .int .i64 k ∧ cmpL cmpB (a.drop k) (b.drop k) = cmpL cmpB a b ∧ Grew w wr) (fun i _ => a.length - (intOf i).toNat)
  case atStart => exact ⟨0, Nat.zero_le _, Nat.zero_le _, rfl, rfl, Grew.refl _⟩
  case round =>
    obtain ⟨k, hk, hkb, rfl, hc, hg⟩ := hrel
    have HC := Lib.hid hc
    clear hc
    by_cases hlt : k < a.length
    · by_cases hlb : k < b.length
      · have ta : k < (ByteArray.mk a.toArray).size := by rw [sa]; exact hlt
        have tb : k < (ByteArray.mk b.toArray).size := by rw [sb]; exact hlb
        go_upto_region 4 with fail
        go_quiet (fail)
        have ex : (ByteArray.mk a.toArray)[k] = a[k] := rfl
        have ey : (ByteArray.mk b.toArray)[k] = b[k] := rfl
        rw [ex, ey]
        have gq := hg.drewN nq
        obtain ⟨r, hr⟩ : ∃ r, cmpI (a[k].toNat : Int) (b[k].toNat : Int) = r := ⟨_, rfl⟩
        by_cases h0 : r = 0
        · have hn := Lib.hid (cmpL_next hlt hlb HC.out (show cmpB a[k] b[k] = 0 from hr.trans h0))
          have hq : ((a[k].toNat : Int) != (b[k].toNat : Int)) = false := by
            have := (cmpI_is.eq _ _).1 (hr.trans h0)
            rw [this]; simp
          rw [hq]
          clear hq hr h0 ex ey
          go_wp2
          go_roundw
          case rel => exact ⟨k + 1, by omega, by omega, by go_num, hn.out, gq⟩
          case measure => simp [intOf]; omega
        · have hn := Lib.hid (cmpL_other hlt hlb HC.out (show ¬ cmpB a[k] b[k] = 0 from fun e => h0 (hr.symm.trans e)))
          have hE : cmpB a[k] b[k] = r := hr
          rw [hE] at hn
          have hq : ((a[k].toNat : Int) != (b[k].toNat : Int)) = true := by
            rw [bne_iff_ne]; intro e; exact h0 (hr.symm.trans ((cmpI_is.eq _ _).2 e))
          rw [hq]
          have wa : IntKind.i64.wrap ((ByteArray.mk a.toArray)[k].toNat : Int) = (a[k].toNat : Int) := wrap8 _
          have wb : IntKind.i64.wrap ((ByteArray.mk b.toArray)[k].toNat : Int) = (b[k].toNat : Int) := wrap8 _
          clear hq hE ex ey h0
          have HRR := Lib.hid hr
          clear hr
          go_upto_region 5 with fail
          refine wp_region_after (by kernel_rfl) (by kernel_rfl) ?_
          repeat (quiet_step ((go_at_call 94; exact After.call ((ints_any (a[k].toNat : Int) (b[k].toNat : Int) _).mono fun e w' ⟨h1, h2⟩ => ⟨h1, by subst h2; exact Grew.refl _⟩))))
          refine wpQuiet_nil ?_
          intro w2 hg2
          rw [HRR.out]
          have gq2 := gq.trans hg2
          go_wp2
          go_ret
          exact ⟨by rw [hn.out]; rfl, gq2⟩
      · have hn := Lib.hid (cmpL_over (f := cmpB) hk hkb (by omega) HC.out)
        clear HC
        go_wp2_with fail
        refine (ints_any _ _ _).mono ?_
        rintro e w1 ⟨rfl, rfl⟩
        rw [hn.out]
        go_wp2
        go_ret
        exact ⟨rfl, hg⟩
    · have hn := Lib.hid (cmpL_over (f := cmpB) hk hkb (by omega) HC.out)
      clear HC
      go_wp2_with fail
      refine (ints_any _ _ _).mono ?_
      rintro e w1 ⟨rfl, rfl⟩
      rw [hn.out]
      go_wp2
      go_ret
      exact ⟨rfl, hg⟩
set_option maxHeartbeats 1000000 in
theorem rCompare_any (a b : Vl) (w : World) : Calls Tryd.prog 93 #[valV a, valV b] w fun e w' => e = .returned (.int .i64 (cmpV a b)) ∧ Grew w w' := by
  obtain ⟨ta, an, sa, hal⟩ := a
  obtain ⟨tb, bn, sb, hbl⟩ := b
  unfold valV
  obtain ⟨r, hr⟩ : ∃ r, cmpI ta tb = r := ⟨_, rfl⟩
  obtain ⟨q, hq⟩ : ∃ q, cmpI an bn = q := ⟨_, rfl⟩
  have b1 : Grew w ((w.alloc (.cells #[.int .i64 ta, .int .i64 an, strV sa] 58)).alloc (.cells #[.int .i64 tb, .int .i64 bn, strV sb] 58)) := ((Grew.refl w).alloc _).alloc _
  obtain ⟨x0, x1, x2⟩ := cells3 w (.int .i64 ta) (.int .i64 an) (strV sa) 58
  obtain ⟨y0, y1, y2⟩ := cells3 (w.alloc (.cells #[.int .i64 ta, .int .i64 an, strV sa] 58)) (.int .i64 tb) (.int .i64 bn) (strV sb) 58
  have bb := below_new (w.alloc (.cells #[.int .i64 ta, .int .i64 an, strV sa] 58)) (.cells #[.int .i64 tb, .int .i64 bn, strV sb] 58)
  replace x0 := cell_keep bb x0
  replace x1 := cell_keep bb x1
  replace x2 := cell_keep bb x2
  clear bb
  rw [show (w.alloc (.cells #[.int .i64 ta, .int .i64 an, strV sa] 58)).heap.size = w.heap.size + 1 by simp] at y0 y1 y2
  go_enter Tryd.func93, Tryd.ntmps93
  go_upto_region 1 with fail
  obtain ⟨w0, hw0⟩ : ∃ x : World, x = (w.alloc (.cells #[.int .i64 ta, .int .i64 an, strV sa] 58)).alloc (.cells #[.int .i64 tb, .int .i64 bn, strV sb] 58) := ⟨_, rfl⟩
  rw [← hw0] at x0 x1 x2 y0 y1 y2 b1
  rw [← hw0]
  clear hw0
  by_cases h0 : r = 0
  · subst h0
    have hA : (ta != tb) = false := by simpa using (cmpI_is.eq _ _).1 hr
    by_cases h1 : q = 0
    · subst h1
      have hB : (an != bn) = false := by simpa using (cmpI_is.eq _ _).1 hq
      have HR := Lib.hid (cmpV_three (a := ⟨ta, an, sa, hal⟩) (b := ⟨tb, bn, sb, hbl⟩) hr hq)
      clear hr hq
      go_wp2_with fail
      refine (texts_any sa sb hal _).mono ?_
      rintro e w3 ⟨rfl, hg⟩
      rw [← HR.out]
      go_wp2
      go_ret
      exact ⟨rfl, b1.trans hg⟩
    · have hB : (an != bn) = true := by rw [bne_iff_ne]; intro e; exact h1 (hq.symm.trans ((cmpI_is.eq _ _).2 e))
      have HR := Lib.hid (cmpV_two (a := ⟨ta, an, sa, hal⟩) (b := ⟨tb, bn, sb, hbl⟩) hr hq h1)
      have HQ := Lib.hid hq
      clear hr hq h1
      go_wp2_with fail
      refine (ints_any _ _ _).mono ?_
      rintro e w3 ⟨rfl, rfl⟩
      rw [HQ.out]
      go_wp2
      go_ret
      exact ⟨by rw [HR.out]; rfl, b1⟩
  · have hA : (ta != tb) = true := by rw [bne_iff_ne]; intro e; exact h0 (hr.symm.trans ((cmpI_is.eq _ _).2 e))
    have HR := Lib.hid (cmpV_one (a := ⟨ta, an, sa, hal⟩) (b := ⟨tb, bn, sb, hbl⟩) hr h0)
    have HQ := Lib.hid hr
    clear hr hq h0
    go_wp2_with fail
    refine (ints_any _ _ _).mono ?_
    rintro e w3 ⟨rfl, rfl⟩
    rw [HQ.out]
    go_wp2
    go_ret
    exact ⟨by rw [HR.out]; rfl, b1⟩
set_option maxHeartbeats 1000000 in
theorem rCompareTuple_any (va vb : Value) (a b : Tp) (w : World) (ha : IsVals w va a) (hb : IsVals w vb b) :
    Calls Tryd.prog 42 #[va, vb] w fun e w' => e = .returned (.int .i64 (cmpT a b)) ∧ Grew w w' := by
  obtain ⟨pa, ca, rfl, ha, hma⟩ := ha
  obtain ⟨pb, cb, rfl, hb, hmb⟩ := hb
  go_enter Tryd.func42, Tryd.ntmps42
  go_wp2
  go_loopw [5, 6] (fun i _ wr => ∃ k : Nat, k ≤ a.length ∧ k ≤ b.length ∧ i = .int .i64 k ∧ cmpL cmpV (a.drop k) (b.drop k) = cmpT a b ∧ Grew w wr) (fun i _ _ => a.length - (intOf i).toNat)
  case atStart => exact ⟨0, Nat.zero_le _, Nat.zero_le _, rfl, rfl, Grew.refl _⟩
  case round =>
    obtain ⟨k, hk, hkb, rfl, hc, hg⟩ := hrel
    have HC := Lib.hid hc
    clear hc
    by_cases hlt : k < a.length
    · by_cases hlb : k < b.length
      · obtain ⟨b1, o1, rfl, c0, c1, c2⟩ := vals_at (ha.keep (keeps_below hg.below)) (List.getElem?_eq_getElem hlt)
        obtain ⟨b2, o2, rfl, d0, d1, d2⟩ := vals_at (hb.keep (keeps_below hg.below)) (List.getElem?_eq_getElem hlb)
        obtain ⟨r, hr⟩ : ∃ r, cmpV a[k] b[k] = r := ⟨_, rfl⟩
        have HN1 := Lib.hid (fun h0 : cmpV a[k] b[k] = 0 => cmpL_next hlt hlb HC.out h0)
        have HN2 := Lib.hid (fun h0 : ¬ cmpV a[k] b[k] = 0 => cmpL_other hlt hlb HC.out h0)
        rw [hr] at HN1 HN2
        obtain ⟨x, hx⟩ : ∃ x, x = a[k] := ⟨_, rfl⟩
        obtain ⟨y, hy⟩ : ∃ y, y = b[k] := ⟨_, rfl⟩
        rw [← hx] at c0 c1 c2 hr
        rw [← hy] at d0 d1 d2 hr
        clear hx hy
        have HRR := Lib.hid hr
        clear hr
        replace d0 := After.cell d0
        replace d1 := After.cell d1
        replace d2 := After.cell d2
        replace c0 := After.cell c0
        replace c1 := After.cell c1
        replace c2 := After.cell c2
        go_upto_region 4 with fail
        refine wp_region_after (by kernel_rfl) (by kernel_rfl) ?_
        repeat (quiet_step ((go_at_call 93; exact After.call (rCompare_any x y _))))
        refine wpQuiet_nil ?_
        intro w2 hg2
        rw [HRR.out]
        have g2 := hg.trans hg2
        by_cases h0 : r = 0
        · have HN := Lib.hid (HN1.out h0)
          subst h0
          clear HN1 HN2 c0 c1 c2 d0 d1 d2
          go_wp2
          go_roundw
          case rel => exact ⟨k + 1, by omega, by omega, by go_num, HN.out, g2⟩
          case measure => simp [intOf]; omega
        · have HN := Lib.hid (HN2.out h0)
          have hr0 : (r != 0) = true := by simpa using h0
          clear HN1 HN2 h0 c0 c1 c2 d0 d1 d2
          go_wp2
          go_ret
          exact ⟨by rw [show cmpT a b = r from HN.out]; rfl, g2⟩
      · have hn := Lib.hid (cmpL_over (f := cmpV) hk hkb (by omega) HC.out)
        clear HC
        go_wp2_with fail
        refine (ints_any _ _ _).mono ?_
        rintro e w1 ⟨rfl, rfl⟩
        rw [hn.out]
        go_wp2
        go_ret
        exact ⟨rfl, hg⟩
    · have hn := Lib.hid (cmpL_over (f := cmpV) hk hkb (by omega) HC.out)
      clear HC
      go_wp2_with fail
      refine (ints_any _ _ _).mono ?_
      rintro e w1 ⟨rfl, rfl⟩
      rw [hn.out]
      go_wp2
      go_ret
      exact ⟨rfl, hg⟩
end Go.Proofs.YtdibijhaiaiifaaDoor
