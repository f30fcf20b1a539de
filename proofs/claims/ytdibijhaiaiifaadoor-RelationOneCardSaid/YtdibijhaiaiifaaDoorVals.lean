/- Words for memory: values, tuples, rows; worlds that a call that only reads leaves; a region that draws its order and only reads, walked once. -/
import Derived.Test.YtdibijhaiaiifaaDoorLate
import Derived.Shelf.SlSortCmp.KitK
import Derived.Deep.Cut
import Derived.Deep.CutRange
import Derived.Deep.LoopGhost
namespace Go.Proofs.YtdibijhaiaiifaaDoor
open Go.RowKit
/-! ### values -/
def encB (c : UInt8) : List Value := [.int .u8 c.toNat]
def IsBytes (w : World) (v : Value) (l : List UInt8) : Prop := IsRows 1 encB w v l
def encVl (x : Vl) : List Value := [.int .i64 x.t, .int .i64 x.n, strV x.s]
def valV (x : Vl) : Value := .agg #[.int .i64 x.t, .int .i64 x.n, strV x.s]
def IsVals (w : World) (v : Value) (l : Tp) : Prop := IsRows 3 encVl w v l
theorem IsVals.keep {w w' : World} {v : Value} {l : Tp} (h : IsVals w v l) (hb : Below w.heap.size w w') : IsVals w' v l := IsRows.keep h (keeps_below hb)
theorem IsVals.nil (w : World) : IsVals w (.slice none 0 0) [] := ⟨none, 0, rfl, .inl rfl, by simp, by simp, by simp⟩
theorem IsSpans.nil (w : World) : IsSpans w (.slice none 0 0) [] := ⟨none, 0, rfl, .inl rfl, by simp, by simp, by simp⟩
theorem vals_at {w : World} {a : Option Addr} {l : Tp} (h : RowsAt 3 encVl w a l) {i : Nat} {x : Vl} (hi : l[i]? = some x) :
    ∃ b off, a = some ⟨b, off, none⟩ ∧ w.cell? ⟨b, off + i * 3, none⟩ = some (.int .i64 x.t) ∧ w.cell? ⟨b, off + i * 3 + 1, none⟩ = some (.int .i64 x.n) ∧ w.cell? ⟨b, off + i * 3 + 2, none⟩ = some (strV x.s) := by
  obtain ⟨b, off, ha, hc⟩ := h.at_ hi
  have hc := hc i x hi
  exact ⟨b, off, ha, hc 0 _ rfl, hc 1 _ rfl, hc 2 _ rfl⟩
/-! ### worlds behind a call that only reads -/
/-- Some draws, some blocks laid behind. -/
def Grew (w w' : World) : Prop := ∃ n os, w' = Go.Sort.grow (w.drewN n) os
theorem Grew.refl (w : World) : Grew w w := ⟨0, #[], by rw [Go.Sort.grow_empty]; rfl⟩
theorem Grew.drewN {w w' : World} (h : Grew w w') (k : Nat) : Grew w (w'.drewN k) := by
  obtain ⟨n, os, rfl⟩ := h
  exact ⟨n + k, os, by rw [← World.drewN_drewN]; rfl⟩
theorem Grew.drew {w w' : World} (h : Grew w w') : Grew w w'.drew := h.drewN 1
theorem Grew.alloc {w w' : World} (h : Grew w w') (o : Obj) : Grew w (w'.alloc o) := by
  obtain ⟨n, os, rfl⟩ := h
  exact ⟨n, os ++ #[o], by rw [Go.Sort.alloc_eq_grow, Go.Sort.grow_grow]⟩
theorem Grew.trans {a b c : World} (h : Grew a b) (k : Grew b c) : Grew a c := by
  obtain ⟨n, os, rfl⟩ := h
  obtain ⟨m, os', rfl⟩ := k
  exact ⟨n + m, os ++ os', by rw [← World.drewN_drewN]; show Go.Sort.grow (Go.Sort.grow ((a.drewN n).drewN m) os) os' = _; rw [Go.Sort.grow_grow]⟩
theorem Grew.below {w w' : World} (h : Grew w w') : Below w.heap.size w w' := by
  obtain ⟨n, os, rfl⟩ := h
  refine ⟨rfl, rfl, rfl, by rw [Go.Sort.size_grow]; exact Nat.le_add_right _ _, fun i hi => ?_⟩
  show (w.heap ++ os)[i]? = w.heap[i]?
  rw [Array.getElem?_append_left hi]
structure After (w : World) where
  w' : World
  ok : Grew w w'
instance (w : World) : Inhabited (After w) := ⟨⟨w, Grew.refl w⟩⟩
theorem After.cell {w : World} {a : Addr} {v : Value} (h : w.cell? a = some v) : ∀ p : After w, p.w'.cell? a = some v := fun p => cell_keep p.ok.below h
theorem After.call {w : World} {f : FuncId} {args : Array Value} {v : Value} {p : After w} (h : Calls Tryd.prog f args p.w' fun e w' => e = .returned v ∧ Grew p.w' w') : Calls Tryd.prog f args p.w' fun e w'' => e = .returned v ∧ ∃ q : After w, w'' = q.w' :=
  h.mono fun _ w'' ⟨he, hg⟩ => ⟨he, ⟨w'', p.ok.trans hg⟩, rfl⟩
theorem wp_region_after {id : Nat} {Q : Exit → Act → World → Prop} {a : Act} {w : World} {l : List Oper} (hm : Tryd.prog.follows .mixedOrders = true) (hB : Region.lexB .any l.toArray = true)
    (h : wpQuiet Tryd.prog l.toArray (fun w' => ∃ p : After w, w' = p.w') (fun a' => ∀ w', Grew w w' → Q .normal a' w') l a) : (Code.region id l.toArray true).wp Tryd.prog Q a w :=
  wp_region_quiet (C := fun w' => ∃ p : After w, w' = p.w') hm hB ⟨⟨w.drew, (Grew.refl w).drew⟩, rfl⟩ (by
    have e : (fun a' => ∀ w', Grew w w' → Q .normal a' w') = fun a' => ∀ w', (∃ p : After w, w' = p.w') → Q .normal a' w' := by
      funext a'
      refine propext ⟨fun h w' ⟨p, hp⟩ => by subst hp; exact h _ p.ok, fun h w' hg => h w' ⟨⟨w', hg⟩, rfl⟩⟩
    rw [← e]; simpa using h)
/-! ### comparisons -/
theorem isNaN_any (a : Int) (w : World) : Calls Tryd.prog 137 #[.int .i64 a] w fun e w' => e = .returned (.bool false) ∧ w = w' := by
  have h : (a != a) = false := by simp
  go_enter Tryd.func137, Tryd.ntmps137
  go_wp2
  go_ret
  exact ⟨rfl, rfl⟩
theorem cmpI_any (a b : Int) (w : World) : Calls Tryd.prog 115 #[.int .i64 a, .int .i64 b] w fun e w' => e = .returned (.int .i64 (cmpI a b)) ∧ w = w' := by
  obtain ⟨r, hr⟩ : ∃ r, cmpI a b = r := ⟨_, rfl⟩
  rw [hr]
  by_cases h1 : a < b
  · have : r = -1 := by rw [← hr]; simp [cmpI, h1]
    subst this
    clear hr
    go_enter Tryd.func115, Tryd.ntmps115
    go_wp2_with fail
    refine (isNaN_any _ _).mono ?_
    rintro e w1 ⟨rfl, rfl⟩
    go_wp2_with fail
    refine (isNaN_any _ _).mono ?_
    rintro e w1 ⟨rfl, rfl⟩
    go_wp2
    go_ret
    exact ⟨rfl, rfl⟩
  · by_cases h2 : b < a
    · have : r = 1 := by rw [← hr]; simp [cmpI, h1, h2]
      subst this
      clear hr
      go_enter Tryd.func115, Tryd.ntmps115
      go_wp2_with fail
      refine (isNaN_any _ _).mono ?_
      rintro e w1 ⟨rfl, rfl⟩
      go_wp2_with fail
      refine (isNaN_any _ _).mono ?_
      rintro e w1 ⟨rfl, rfl⟩
      go_wp2
      go_ret
      exact ⟨rfl, rfl⟩
    · have : r = 0 := by rw [← hr]; simp [cmpI, h1, h2]
      subst this
      clear hr
      go_enter Tryd.func115, Tryd.ntmps115
      go_wp2_with fail
      refine (isNaN_any _ _).mono ?_
      rintro e w1 ⟨rfl, rfl⟩
      go_wp2_with fail
      refine (isNaN_any _ _).mono ?_
      rintro e w1 ⟨rfl, rfl⟩
      go_wp2
      go_ret
      exact ⟨rfl, rfl⟩
end Go.Proofs.YtdibijhaiaiifaaDoor
