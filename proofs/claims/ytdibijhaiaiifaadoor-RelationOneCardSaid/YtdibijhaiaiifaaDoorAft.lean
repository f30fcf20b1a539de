/- A region that draws its order, only reads, and calls functions that may make memory: walked once. Union, Meet, Minus, Insert, Remove. -/
import Derived.Test.YtdibijhaiaiifaaDoorCc
namespace Go.Proofs.YtdibijhaiaiifaaDoor
open Go.RowKit
structure AftB (w : World) where
  w' : World
  ok : Below w.heap.size w w'
instance (w : World) : Inhabited (AftB w) := ⟨⟨w, Below.refl _ w⟩⟩
theorem AftB.cell {w : World} {a : Addr} {v : Value} (h : w.cell? a = some v) : ∀ p : AftB w, p.w'.cell? a = some v := fun p => cell_keep p.ok h
theorem AftB.call {w : World} {f : FuncId} {args : Array Value} {v : Value} {p : AftB w} (h : Calls Tryd.prog f args p.w' fun e w' => e = .returned v ∧ Below p.w'.heap.size p.w' w') : Calls Tryd.prog f args p.w' fun e w'' => e = .returned v ∧ ∃ q : AftB w, w'' = q.w' :=
  h.mono fun _ w'' ⟨he, hg⟩ => ⟨he, ⟨w'', below_trans p.ok hg⟩, rfl⟩
theorem wp_region_aftB {id : Nat} {Q : Exit → Act → World → Prop} {a : Act} {w : World} {l : List Oper} (hm : Tryd.prog.follows .mixedOrders = true) (hB : Region.lexB .any l.toArray = true)
    (h : wpQuiet Tryd.prog l.toArray (fun w' => ∃ p : AftB w, w' = p.w') (fun a' => ∀ w', Below w.heap.size w w' → Q .normal a' w') l a) : (Code.region id l.toArray true).wp Tryd.prog Q a w :=
  wp_region_quiet (C := fun w' => ∃ p : AftB w, w' = p.w') hm hB ⟨⟨w.drew, (Below.refl _ w).drew⟩, rfl⟩ (by
    have e : (fun a' => ∀ w', Below w.heap.size w w' → Q .normal a' w') = fun a' => ∀ w', (∃ p : AftB w, w' = p.w') → Q .normal a' w' := by
      funext a'
      refine propext ⟨fun h w' ⟨p, hp⟩ => by subst hp; exact h _ p.ok, fun h w' hg => h w' ⟨⟨w', hg⟩, rfl⟩⟩
    rw [← e]; simpa using h)
/-! ### the operations on relations -/
def RelRet (op : Bool → Bool → Bool) (xs ys : List RR) (w : World) (e : Ending) (w' : World) : Prop := ∃ u, e = .returned u ∧ ∃ zs, IsRelF w' w.heap.size u zs ∧ OpOf op xs ys zs ∧ Below w.heap.size w w'
def opU (x y : Bool) : Bool := x || y
def opM (x y : Bool) : Bool := x && y
def opD (x y : Bool) : Bool := x && !y
theorem momsU : Moms 49 opU := ⟨enters_of Tryd.func49 (by kernel_rfl) rfl, fun va vb a b w hT ha hb => Union_any va vb a b w hT ha hb⟩
theorem momsM : Moms 84 opM := ⟨enters_of Tryd.func84 (by kernel_rfl) rfl, fun va vb a b w hT ha hb => Meet_any va vb a b w hT ha hb⟩
theorem momsD : Moms 48 opD := ⟨enters_of Tryd.func48 (by kernel_rfl) rfl, fun va vb a b w hT ha hb => Minus_any va vb a b w hT ha hb⟩
section
variable (va vb : Value) (xs ys : List RR) (w : World) (hT : Tab w) (ha : IsRel w va xs) (hb : IsRel w vb ys) (sa : Sml 10000 xs) (sb : Sml 10000 ys)
include hT ha hb sa sb
theorem UnionR_any : Calls Tryd.prog 29 #[va, vb] w (RelRet opU xs ys w) := by
  go_enter Tryd.func29, Tryd.ntmps29
  go_wp2_with fail
  refine (combine_any 49 opU rfl momsU va vb xs ys _ hT ha hb sa sb).mono ?_
  rintro e w1 ⟨u, rfl, zs, h1, h2, h3⟩
  go_wp2
  go_ret
  exact ⟨u, rfl, zs, h1, h2, h3⟩
theorem MeetR_any : Calls Tryd.prog 31 #[va, vb] w (RelRet opM xs ys w) := by
  go_enter Tryd.func31, Tryd.ntmps31
  go_wp2_with fail
  refine (combine_any 84 opM rfl momsM va vb xs ys _ hT ha hb sa sb).mono ?_
  rintro e w1 ⟨u, rfl, zs, h1, h2, h3⟩
  go_wp2
  go_ret
  exact ⟨u, rfl, zs, h1, h2, h3⟩
theorem MinusR_any : Calls Tryd.prog 33 #[va, vb] w (RelRet opD xs ys w) := by
  go_enter Tryd.func33, Tryd.ntmps33
  go_wp2_with fail
  refine (combine_any 48 opD rfl momsD va vb xs ys _ hT ha hb sa sb).mono ?_
  rintro e w1 ⟨u, rfl, zs, h1, h2, h3⟩
  go_wp2
  go_ret
  exact ⟨u, rfl, zs, h1, h2, h3⟩
end
/-- A row that lies nowhere. -/
def rr (t : Tp) (s : List Sp) : RR := ⟨none, 0, t, none, 0, s⟩
theorem Sml.one {t : Tp} {s : List Sp} (ht : t.length ≤ 64) (hs : s.length ≤ 64) {n : Nat} (hn : 1 ≤ n) : Sml n [rr t s] := ⟨hn, by simp; exact ⟨ht, hs⟩⟩
theorem OpOf.congr {op : Bool → Bool → Bool} {xs ys ys' zs : List RR} (h : OpOf op xs ys zs) (e : rows ys = rows ys') : OpOf op xs ys' zs := by
  refine ⟨h.can, fun t k hk => by rw [h.mom t k hk, e], fun n m hn hm => h.sml n m hn ⟨?_, fun x hx => ?_⟩⟩
  · have h1 : ys.length = ys'.length := by have := congrArg List.length e; rwa [rows_length, rows_length] at this
    rw [h1]; exact hm.len
  · have h1 : x.rw ∈ rows ys' := by rw [← e]; exact mem_rows.2 ⟨x, hx, rfl⟩
    obtain ⟨y, hy, e'⟩ := mem_rows.1 h1
    have := hm.each y hy
    have e1 : y.t = x.t := congrArg Prod.fst e'
    have e2 : y.s = x.s := congrArg Prod.snd e'
    rwa [e1, e2] at this
section
variable (va vt vs : Value) (xs : List RR) (t : Tp) (s : List Sp) (w : World) (hT : Tab w) (ha : IsRel w va xs) (ht : IsVals w vt t) (hs : IsSpans w vs s) (sa : Sml 10000 xs) (st : t.length ≤ 64) (ss : s.length ≤ 64)
include hT ha ht hs sa st ss
theorem InsertR_any : Calls Tryd.prog 25 #[va, vt, vs] w (RelRet opU xs [rr t s] w) := by
  obtain ⟨pt, ct, rfl, ht⟩ := ht
  obtain ⟨ps, cs, rfl, hs⟩ := hs
  have B1 := below_new w (.cells #[.slice pt t.length ct, .slice ps s.length cs] 44)
  have hm : IsRel (w.alloc (.cells #[.slice pt t.length ct, .slice ps s.length cs] 44)) (.slice (some ⟨w.heap.size, 0, none⟩) 1 1) [⟨pt, ct, t, ps, cs, s⟩] := ⟨IsRows.lit w [_] encsR (by simp), fun x hx => by rw [List.mem_singleton.1 hx]; exact RowOk.keep ⟨⟨pt, ct, rfl, ht⟩, ⟨ps, cs, rfl, hs⟩⟩ B1⟩
  go_enter Tryd.func25, Tryd.ntmps25
  go_wp2_with fail
  refine (UnionR_any _ _ xs _ _ (hT.keep B1) (ha.keep B1) hm sa ⟨by simp, by simp; exact ⟨st, ss⟩⟩).mono ?_
  rintro e w1 ⟨u, rfl, zs, h1, h2, h3⟩
  go_wp2
  go_ret
  exact ⟨u, rfl, zs, h1.mono B1.size, h2.congr rfl, below_trans B1 h3⟩
theorem RemoveR_any : Calls Tryd.prog 27 #[va, vt, vs] w (RelRet opD xs [rr t s] w) := by
  obtain ⟨pt, ct, rfl, ht⟩ := ht
  obtain ⟨ps, cs, rfl, hs⟩ := hs
  have B1 := below_new w (.cells #[.slice pt t.length ct, .slice ps s.length cs] 44)
  have hm : IsRel (w.alloc (.cells #[.slice pt t.length ct, .slice ps s.length cs] 44)) (.slice (some ⟨w.heap.size, 0, none⟩) 1 1) [⟨pt, ct, t, ps, cs, s⟩] := ⟨IsRows.lit w [_] encsR (by simp), fun x hx => by rw [List.mem_singleton.1 hx]; exact RowOk.keep ⟨⟨pt, ct, rfl, ht⟩, ⟨ps, cs, rfl, hs⟩⟩ B1⟩
  go_enter Tryd.func27, Tryd.ntmps27
  go_wp2_with fail
  refine (MinusR_any _ _ xs _ _ (hT.keep B1) (ha.keep B1) hm sa ⟨by simp, by simp; exact ⟨st, ss⟩⟩).mono ?_
  rintro e w1 ⟨u, rfl, zs, h1, h2, h3⟩
  go_wp2
  go_ret
  exact ⟨u, rfl, zs, h1.mono B1.size, h2.congr rfl, below_trans B1 h3⟩
end
end Go.Proofs.YtdibijhaiaiifaaDoor
