/- Parts Pa: words, walks and laws that the claims of this seat share. -/
import Derived.Test.YtdibijhaiaiifaaDoorJ9
import Derived.Sort.CutIn
/- The walk of the iterator of pairs. -/
namespace Go.Proofs.YtdibijhaiaiifaaDoor
open Go.RowKit Go.Shelf
attribute [local go_sem] Oper.semAt_some
/-- A block of one cell, or of two. -/
def Cel (w : World) (g : Nat) (t : TypeId) (l : List Value) : Prop := w.heap[g]? = some (.cells l.toArray t (0, 0))
theorem Cel.at_ {w : World} {g : Nat} {t : TypeId} {l : List Value} (h : Cel w g t l) {j : Nat} {v : Value} (hj : l[j]? = some v) : w.cell? ⟨g, j, none⟩ = some v := cell_at h (by simpa using hj)
theorem Cel.free {w : World} {g : Nat} {t : TypeId} {l : List Value} (h : Cel w g t l) (j : Nat) : w.frozen? ⟨g, j, none⟩ = false := free_at h
theorem Cel.lt {w : World} {g : Nat} {t : TypeId} {l : List Value} (h : Cel w g t l) : g < w.heap.size := block_lt h
theorem Cel.agree {w w' : World} {g : Nat} {t : TypeId} {l : List Value} {X : Nat → Prop} (h : Cel w g t l) (hg : Agree X w w') (hx : ¬ X g) : Cel w' g t l := (hg.block g h.lt hx).trans h
theorem Cel.keep {w w' : World} {g : Nat} {t : TypeId} {l : List Value} (h : Cel w g t l) (hb : Below w.heap.size w w') : Cel w' g t l := block_keep h hb
theorem Cel.new (w : World) (t : TypeId) (l : List Value) : Cel (w.alloc (.cells l.toArray t)) w.heap.size t l := World.alloc_heap_new w _
theorem Cel.set {w : World} {g : Nat} {t : TypeId} {l : List Value} (h : Cel w g t l) (j : Nat) (v : Value) : Cel (w.setCell ⟨g, j, none⟩ v) g t (l.set j v) := by
  have := heap_setCell_same w g j l.toArray t v h
  unfold Cel
  rw [this]
  simp
theorem Cel.other {w : World} {g : Nat} {t : TypeId} {l : List Value} (h : Cel w g t l) {p : Addr} (hp : g ≠ p.block) (v : Value) : Cel (w.setCell p v) g t l := (heap_setCell_other w p g v hp).trans h
theorem Agree.setCell {X : Nat → Prop} {A B : World} (h : Agree X A B) {p : Addr} (hp : X p.block ∨ A.heap.size ≤ p.block) (v : Value) : Agree X A (B.setCell p v) := by
  refine ⟨h.os, h.tape, h.output, ?_, fun k hk hx => ?_⟩
  · have : (B.setCell p v).heap.size = B.heap.size := by simp [World.setCell]
    rw [this]; exact h.size
  · rw [heap_setCell_other B p k v fun e => ?_]
    · exact h.block k hk hx
    · rcases hp with hp | hp
      · exact hx (by rw [e]; exact hp)
      · omega
theorem Agree.alloc {X : Nat → Prop} {A B : World} (h : Agree X A B) (o : Obj) : Agree X A (B.alloc o) := h.trans (.of_below (below_new B o))
theorem Agree.drew {X : Nat → Prop} {A B : World} (h : Agree X A B) : Agree X A B.drew := ⟨h.os, h.tape, h.output, h.size, h.block⟩
theorem IsRel.tail {w : World} {b off n c : Nat} {x : RR} {l : List RR} (h : IsRel w (.slice (some ⟨b, off, none⟩) n c) (x :: l)) : IsRel w (.slice (if c = 1 then some ⟨b, off, none⟩ else some ⟨b, off + 2, none⟩) (n - 1) (c - 1)) l := by
  obtain ⟨⟨a', c', e, hr, h1, h2, h3⟩, hok⟩ := h
  injection e with e1 e2 e3
  subst e1 e2 e3
  simp only [List.length_cons] at *
  refine ⟨⟨_, c - 1, by rw [Nat.add_sub_cancel], ?_, by omega, by omega, by omega⟩, fun y hy => hok y (by simp [hy])⟩
  by_cases h0 : c = 1
  · exact .inl (List.eq_nil_of_length_eq_zero (by omega))
  · rw [if_neg h0]
    refine .inr ⟨b, off + 2, rfl, fun i y hi j u hj => ?_⟩
    rcases hr with hr | ⟨b', off', e, hc⟩
    · cases hr
    · injection e with e; injection e with e1 e2; subst e1 e2
      have := hc (i + 1) y (by simpa using hi) j u hj
      rwa [show off + (i + 1) * 2 + j = off + 2 + i * 2 + j by omega] at this
def encPr (p : RR × RR) : Array Value := #[rowV p.1, rowV p.2]
set_option maxRecDepth 100000 in
set_option maxHeartbeats 2000000 in
theorem pairs_in (l g1 g2 b7 n₀ : Nat) (al bl : List RR) (ua ub : Value) (J : List (RR × RR) → World → Prop) (hJ : ∀ s A B, J s A → Agree (fun k => k = g1 ∨ k = g2) A B → J s B)
    (hY : ∀ pre x A, x ∈ pairsL al bl → J pre A → pre.length < (pairsL al bl).length → YieldAt Fence.wide 2 Tryd.prog l (encPr x) A fun e B => e = .returned (.bool true) ∧ J (pre ++ [x]) B ∧ Agree (fun k => k = b7 ∨ n₀ ≤ k) A B)
    (W : World) (h12 : g1 ≠ g2) (h17 : g1 ≠ b7) (h27 : g2 ≠ b7) (h1n : g1 < n₀) (h2n : g2 < n₀) (hg1 : Cel W g1 24 [ua]) (hg2 : Cel W g2 24 [ub])
    (hR : ∀ B, Agree (fun k => k = b7 ∨ k = g1 ∨ k = g2 ∨ n₀ ≤ k) W B → IsRel B ua al ∧ IsRel B ub bl) (has : al.length ≤ 1000000) (hbs : bl.length ≤ 1000000) (h0 : J [] W) :
    CallsIn Fence.wide 3 Tryd.prog 143 #[.func (.yield l) #[] #[], .pointer (some ⟨g1, 0, none⟩), .pointer (some ⟨g2, 0, none⟩)] W fun e B => (∃ v, e = .returned v) ∧ ∃ xs, xs = pairsL al bl ∧ J xs B := by
  refine callsIn_of_wp Tryd.func143 rfl trivial ?_ rfl
  simp only [Tryd.ntmps143, List.size_toArray, List.length_cons, List.length_nil, Nat.reduceAdd, Nat.reduceSub, Array.replicate_succ, Array.replicate_zero, List.push_toArray, List.append_toArray, List.nil_append, List.cons_append]
  gi_wp2
  gi_loopg [6] (al.length + bl.length) (fun g v6 wr => ∃ (pre : List (RR × RR)) (la lb : List RR) (va vb : Value), la.length + lb.length ≤ g ∧ la.length ≤ 1000000 ∧ lb.length ≤ 1000000 ∧ Hid (pre ++ pairsL la lb = pairsL al bl) ∧ Cel wr g1 24 [va] ∧ Cel wr g2 24 [vb] ∧ J pre wr ∧
    Agree (fun k => k = b7 ∨ k = g1 ∨ k = g2 ∨ n₀ ≤ k) W wr ∧ Hid (∀ B, Agree (fun k => k = b7 ∨ k = g1 ∨ k = g2 ∨ n₀ ≤ k) W B → IsRel B va la ∧ IsRel B vb lb))
  case atStart => exact ⟨[], al, bl, ua, ub, Nat.le_refl _, has, hbs, Lib.hid rfl, hg1, hg2, h0, Agree.refl _ _, Lib.hid hR⟩
  case round =>
    obtain ⟨pre, la, lb, va, vb, hg, hla, hlb, HP, G1, G2, hJs, HA, HR⟩ := hrel
    obtain ⟨ra, rb⟩ := HR.out _ HA
    obtain ⟨pa, ca, rfl, hma⟩ := ra.shape
    obtain ⟨pb, cb, rfl, hmb⟩ := rb.shape
    obtain ⟨n, hn⟩ : ∃ n, la.length = n := ⟨_, rfl⟩
    obtain ⟨m, hm⟩ : ∃ m, lb.length = m := ⟨_, rfl⟩
    rw [hn] at G1 ra HR hg hla hma
    rw [hm] at G2 rb HR hg hlb hmb
    have HN := Lib.hid hn
    have HM := Lib.hid hm
    clear hn hm
    have y1 := G1.at_ (j := 0) rfl
    have y2 := G2.at_ (j := 0) rfl
    have f1 := G1.free 0
    have f2 := G2.free 0
    have hxx : ∀ k, (k = g1 ∨ k = g2) → (k = b7 ∨ k = g1 ∨ k = g2 ∨ n₀ ≤ k) := fun k h => by omega
    have hxy : ∀ k, (k = b7 ∨ n₀ ≤ k) → (k = b7 ∨ k = g1 ∨ k = g2 ∨ n₀ ≤ k) := fun k h => by omega
    cases la with
    | nil =>
      obtain rfl : 0 = n := HN.out
      cases lb with
      | nil =>
        obtain rfl : 0 = m := HM.out
        have HE := Lib.hid (show pre = pairsL al bl by have := HP.out; rwa [pairs_nil, List.append_nil] at this)
        gi_wp2
        go_end0
        exact ⟨⟨_, rfl⟩, pre, HE.out, hJs⟩
      | cons y lb =>
        have hm1 : 1 ≤ m := by rw [← HM.out]; simp
        have hmz : (0 : Int) < (m : Int) := by omega
        have hm0 : ((m : Int) == 0) = false := by rw [beq_eq_false_iff_ne]; omega
        have HL := Lib.hid (show lb.length = m - 1 by rw [← HM.out]; simp)
        have HE := Lib.hid (show pre ++ (argsRow y, y) :: pairsL [] lb = pairsL al bl by have := HP.out; rwa [pairs_right] at this)
        obtain ⟨b2, off2, rfl, -⟩ := rb.at_ (i := 0) rfl
        gi_upto_region 2 with fail
        obtain ⟨nx, hnx⟩ : ∃ nx, wr.heap.size = nx := ⟨_, rfl⟩
        obtain ⟨w1, hw1⟩ : ∃ w1, (wr.alloc (.cells #[.slice none 0 0, .slice none 0 0] 44)).alloc (.cells #[.slice none 0 0, .slice none 0 0] 44) = w1 := ⟨_, rfl⟩
        have B1 : Below wr.heap.size wr w1 := by rw [← hw1]; exact below_alloc' (below_new _ _)
        have X1 : Cel w1 nx 44 [.slice none 0 0, .slice none 0 0] := by rw [← hw1, ← hnx]; exact (Cel.new wr 44 [.slice none 0 0, .slice none 0 0]).keep (below_new _ _)
        have Y1 : Cel w1 (nx + 1) 44 [.slice none 0 0, .slice none 0 0] := by
          have := Cel.new (wr.alloc (.cells #[.slice none 0 0, .slice none 0 0] 44)) 44 [.slice none 0 0, .slice none 0 0]
          rw [World.size_alloc, hnx] at this
          rw [← hw1]; exact this
        have gx1 : g1 < nx := by rw [← hnx]; exact G1.lt
        have gx2 : g2 < nx := by rw [← hnx]; exact G2.lt
        rw [hnx, hw1]
        clear hw1
        replace G1 := G1.keep B1
        replace G2 := G2.keep B1
        have A1 : Agree (fun k => k = g1 ∨ k = g2) wr w1 := .of_below B1
        have ne1 : ¬ g1 = nx := by omega
        have ne2 : ¬ nx = g1 := by omega
        have ne3 : ¬ g2 = nx + 1 := by omega
        have ne4 : ¬ nx + 1 = g2 := by omega
        clear y1 y2 f1 f2 B1
        have Rb1 := (HR.out _ (HA.trans (A1.mono hxx))).2
        obtain ⟨_, _, e, d0, d1, -⟩ := Rb1.at_ (i := 0) rfl
        cases e
        simp only [Nat.zero_mul, Nat.add_zero] at d0 d1
        have t0 := G2.at_ (j := 0) rfl
        have t6 := G1.at_ (j := 0) rfl
        have t1 := G2.free 0
        have t2 := Y1.at_ (j := 0) rfl
        have t3 := Y1.at_ (j := 1) rfl
        have t4 := Y1.free 0
        have t5 := Y1.free 1
        gi_upto_region 11 with fail
        refine wpIn_wide.2 ?_
        go_region
        obtain ⟨pt2, hpt2⟩ : ∃ z, (if cb = 1 then some (⟨b2, off2, none⟩ : Addr) else some ⟨b2, off2 + 2, none⟩) = z := ⟨_, rfl⟩
        rw [hpt2]
        have Tb : Hid (∀ B, Agree (fun k => k = b7 ∨ k = g1 ∨ k = g2 ∨ n₀ ≤ k) W B → IsRel B (.slice pt2 (m - 1) (cb - 1)) lb) := Lib.hid fun B hB => by rw [← hpt2]; exact (HR.out B hB).2.tail
        have Y2 : Cel (((w1.setCell ⟨nx + 1, 0, none⟩ y.av).setCell ⟨nx + 1, 1, none⟩ y.wv).setCell ⟨g2, 0, none⟩ (.slice pt2 (m - 1) (cb - 1))).drew (nx + 1) 44 [y.av, y.wv] := (((Y1.set 0 y.av).set 1 y.wv).other (p := ⟨g2, 0, none⟩) (by simp only; omega) _)
        have X2 : Cel (((w1.setCell ⟨nx + 1, 0, none⟩ y.av).setCell ⟨nx + 1, 1, none⟩ y.wv).setCell ⟨g2, 0, none⟩ (.slice pt2 (m - 1) (cb - 1))).drew nx 44 _ := (((X1.other (p := ⟨nx + 1, 0, none⟩) (by simp only; omega) _).other (p := ⟨nx + 1, 1, none⟩) (by simp only; omega) _).other (p := ⟨g2, 0, none⟩) (by simp only; omega) _)
        have G2' : Cel (((w1.setCell ⟨nx + 1, 0, none⟩ y.av).setCell ⟨nx + 1, 1, none⟩ y.wv).setCell ⟨g2, 0, none⟩ (.slice pt2 (m - 1) (cb - 1))).drew g2 24 [.slice pt2 (m - 1) (cb - 1)] := (((G2.other (p := ⟨nx + 1, 0, none⟩) (by simp only; omega) _).other (p := ⟨nx + 1, 1, none⟩) (by simp only; omega) _).set 0 _)
        have G1' : Cel (((w1.setCell ⟨nx + 1, 0, none⟩ y.av).setCell ⟨nx + 1, 1, none⟩ y.wv).setCell ⟨g2, 0, none⟩ (.slice pt2 (m - 1) (cb - 1))).drew g1 24 _ := (((G1.other (p := ⟨nx + 1, 0, none⟩) (by simp only; omega) _).other (p := ⟨nx + 1, 1, none⟩) (by simp only; omega) _).other (p := ⟨g2, 0, none⟩) (by simp only; omega) _)
        have A2 : Agree (fun k => k = g1 ∨ k = g2) wr (((w1.setCell ⟨nx + 1, 0, none⟩ y.av).setCell ⟨nx + 1, 1, none⟩ y.wv).setCell ⟨g2, 0, none⟩ (.slice pt2 (m - 1) (cb - 1))).drew := (((A1.setCell (p := ⟨nx + 1, 0, none⟩) (.inr (by simp only; omega)) _).setCell (p := ⟨nx + 1, 1, none⟩) (.inr (by simp only; omega)) _).setCell (p := ⟨g2, 0, none⟩) (.inl (.inr rfl)) _).drew
        clear t0 t1 t2 t3 t4 t5 t6 d0 d1 G1 G2 X1 Y1 A1 hpt2 Rb1
        have G1 := G1'
        have G2 := G2'
        clear G1' G2'
        generalize World.drew _ = w2 at *
        have t0 := Y2.at_ (j := 0) rfl
        have t2 := X2.at_ (j := 0) rfl
        have t4 := X2.free 0
        have X3 := X2.set 0 y.av
        have Y3 := Y2.other (p := ⟨nx, 0, none⟩) (by simp only; omega) y.av
        replace G1 := G1.other (p := ⟨nx, 0, none⟩) (by simp only; omega) y.av
        replace G2 := G2.other (p := ⟨nx, 0, none⟩) (by simp only; omega) y.av
        have A3 := A2.setCell (p := ⟨nx, 0, none⟩) (.inr (by simp only; omega)) y.av
        gi_upto_region 14 with fail
        clear t0 t2 t4 X2 Y2 A2
        generalize w2.setCell _ _ = w3 at *
        have RA : Hid (∀ B, Agree (fun k => k = b7 ∨ k = g1 ∨ k = g2 ∨ n₀ ≤ k) W B → IsRel B (.slice pa 0 ca) []) := Lib.hid fun B hB => (HR.out B hB).1
        have RB := Tb
        have t0 := X3.at_ (j := 0) rfl
        have t1 := X3.at_ (j := 1) rfl
        have t2 := Y3.at_ (j := 0) rfl
        have t3 := Y3.at_ (j := 1) rfl
        have HA2 := HA.trans (A3.mono hxx)
        have hYY : YieldAt Fence.wide 2 Tryd.prog l #[.agg #[y.av, .slice none 0 0], .agg #[y.av, y.wv]] w3 (fun e B => e = .returned (.bool true) ∧ J (pre ++ [(argsRow y, y)]) B ∧ Agree (fun k => k = b7 ∨ n₀ ≤ k) w3 B) := hY pre (argsRow y, y) w3 (by rw [← HE.out]; simp) (hJ _ wr w3 hJs A3) (by rw [← HE.out]; simp)
        obtain ⟨fn, tmps, assign, body, hy, hC⟩ := hYY
        clear X3 Y3
        gi_wp2
        refine hC.mono ?_
        rintro e W3 ⟨rfl, hJ3, hk3⟩
        have HE3 := Lib.hid (by have := HE.out; rwa [List.append_cons] at this)
        replace G1 := G1.agree hk3 (by omega)
        replace G2 := G2.agree hk3 (by omega)
        have HA3 := HA2.trans (hk3.mono hxy)
        clear HA2 hk3 HE t0 t1 t2 t3 hy hC
        gi_wp2
        gi_roundg (0 + (m - 1))
        case measure => omega
        case rel => exact ⟨_, [], lb, _, _, by rw [HL.out]; simp, by simp, by rw [HL.out]; omega, HE3, G1, G2, hJ3, HA3, Lib.hid fun B hB => ⟨RA.out B hB, RB.out B hB⟩⟩
    | cons x la =>
      have hn1 : 1 ≤ n := by rw [← HN.out]; simp
      have hnz : (0 : Int) < (n : Int) := by omega
      have hn0 : ((n : Int) == 0) = false := by rw [beq_eq_false_iff_ne]; omega
      have HLA := Lib.hid (show la.length = n - 1 by rw [← HN.out]; simp)
      obtain ⟨b, off, rfl, -⟩ := ra.at_ (i := 0) rfl
      cases lb with
      | nil =>
        obtain rfl : 0 = m := HM.out
        have HE := Lib.hid (show pre ++ (x, noRow) :: pairsL la [] = pairsL al bl by have := HP.out; rwa [pairs_left] at this)
        gi_upto_region 2 with fail
        obtain ⟨nx, hnx⟩ : ∃ nx, wr.heap.size = nx := ⟨_, rfl⟩
        obtain ⟨w1, hw1⟩ : ∃ w1, (wr.alloc (.cells #[.slice none 0 0, .slice none 0 0] 44)).alloc (.cells #[.slice none 0 0, .slice none 0 0] 44) = w1 := ⟨_, rfl⟩
        have B1 : Below wr.heap.size wr w1 := by rw [← hw1]; exact below_alloc' (below_new _ _)
        have X1 : Cel w1 nx 44 [.slice none 0 0, .slice none 0 0] := by rw [← hw1, ← hnx]; exact (Cel.new wr 44 [.slice none 0 0, .slice none 0 0]).keep (below_new _ _)
        have Y1 : Cel w1 (nx + 1) 44 [.slice none 0 0, .slice none 0 0] := by
          have := Cel.new (wr.alloc (.cells #[.slice none 0 0, .slice none 0 0] 44)) 44 [.slice none 0 0, .slice none 0 0]
          rw [World.size_alloc, hnx] at this
          rw [← hw1]; exact this
        have gx1 : g1 < nx := by rw [← hnx]; exact G1.lt
        have gx2 : g2 < nx := by rw [← hnx]; exact G2.lt
        rw [hnx, hw1]
        clear hw1
        replace G1 := G1.keep B1
        replace G2 := G2.keep B1
        have A1 : Agree (fun k => k = g1 ∨ k = g2) wr w1 := .of_below B1
        have ne1 : ¬ g1 = nx := by omega
        have ne2 : ¬ nx = g1 := by omega
        have ne3 : ¬ g2 = nx + 1 := by omega
        have ne4 : ¬ nx + 1 = g2 := by omega
        clear y1 y2 f1 f2 B1
        have Ra1 := (HR.out _ (HA.trans (A1.mono hxx))).1
        obtain ⟨_, _, e, c0, c1, -⟩ := Ra1.at_ (i := 0) rfl
        cases e
        simp only [Nat.zero_mul, Nat.add_zero] at c0 c1
        have t0 := G1.at_ (j := 0) rfl
        have t6 := G2.at_ (j := 0) rfl
        have t1 := G1.free 0
        have t2 := X1.at_ (j := 0) rfl
        have t3 := X1.at_ (j := 1) rfl
        have t4 := X1.free 0
        have t5 := X1.free 1
        gi_upto_region 9 with fail
        refine wpIn_wide.2 ?_
        go_region
        obtain ⟨pt, hpt⟩ : ∃ z, (if ca = 1 then some (⟨b, off, none⟩ : Addr) else some ⟨b, off + 2, none⟩) = z := ⟨_, rfl⟩
        rw [hpt]
        have Ta : Hid (∀ B, Agree (fun k => k = b7 ∨ k = g1 ∨ k = g2 ∨ n₀ ≤ k) W B → IsRel B (.slice pt (n - 1) (ca - 1)) la) := Lib.hid fun B hB => by rw [← hpt]; exact (HR.out B hB).1.tail
        have X2 : Cel (((w1.setCell ⟨nx, 0, none⟩ x.av).setCell ⟨nx, 1, none⟩ x.wv).setCell ⟨g1, 0, none⟩ (.slice pt (n - 1) (ca - 1))).drew nx 44 [x.av, x.wv] := (((X1.set 0 x.av).set 1 x.wv).other (p := ⟨g1, 0, none⟩) (by simp only; omega) _)
        have Y2 : Cel (((w1.setCell ⟨nx, 0, none⟩ x.av).setCell ⟨nx, 1, none⟩ x.wv).setCell ⟨g1, 0, none⟩ (.slice pt (n - 1) (ca - 1))).drew (nx + 1) 44 _ := (((Y1.other (p := ⟨nx, 0, none⟩) (by simp only; omega) _).other (p := ⟨nx, 1, none⟩) (by simp only; omega) _).other (p := ⟨g1, 0, none⟩) (by simp only; omega) _)
        have G1' : Cel (((w1.setCell ⟨nx, 0, none⟩ x.av).setCell ⟨nx, 1, none⟩ x.wv).setCell ⟨g1, 0, none⟩ (.slice pt (n - 1) (ca - 1))).drew g1 24 [.slice pt (n - 1) (ca - 1)] := (((G1.other (p := ⟨nx, 0, none⟩) (by simp only; omega) _).other (p := ⟨nx, 1, none⟩) (by simp only; omega) _).set 0 _)
        have G2' : Cel (((w1.setCell ⟨nx, 0, none⟩ x.av).setCell ⟨nx, 1, none⟩ x.wv).setCell ⟨g1, 0, none⟩ (.slice pt (n - 1) (ca - 1))).drew g2 24 _ := (((G2.other (p := ⟨nx, 0, none⟩) (by simp only; omega) _).other (p := ⟨nx, 1, none⟩) (by simp only; omega) _).other (p := ⟨g1, 0, none⟩) (by simp only; omega) _)
        have A2 : Agree (fun k => k = g1 ∨ k = g2) wr (((w1.setCell ⟨nx, 0, none⟩ x.av).setCell ⟨nx, 1, none⟩ x.wv).setCell ⟨g1, 0, none⟩ (.slice pt (n - 1) (ca - 1))).drew := (((A1.setCell (p := ⟨nx, 0, none⟩) (.inr (by simp only; omega)) _).setCell (p := ⟨nx, 1, none⟩) (.inr (by simp only; omega)) _).setCell (p := ⟨g1, 0, none⟩) (.inl (.inl rfl)) _).drew
        clear t0 t1 t2 t3 t4 t5 t6 c0 c1 G1 G2 X1 Y1 A1 hpt Ra1
        have G1 := G1'
        have G2 := G2'
        clear G1' G2'
        generalize World.drew _ = w2 at *
        have RA := Ta
        have RB : Hid (∀ B, Agree (fun k => k = b7 ∨ k = g1 ∨ k = g2 ∨ n₀ ≤ k) W B → IsRel B (.slice pb 0 cb) []) := Lib.hid fun B hB => (HR.out B hB).2
        have t0 := X2.at_ (j := 0) rfl
        have t1 := X2.at_ (j := 1) rfl
        have t2 := Y2.at_ (j := 0) rfl
        have t3 := Y2.at_ (j := 1) rfl
        have HA2 := HA.trans (A2.mono hxx)
        have hYY : YieldAt Fence.wide 2 Tryd.prog l #[.agg #[x.av, x.wv], .agg #[.slice none 0 0, .slice none 0 0]] w2 (fun e B => e = .returned (.bool true) ∧ J (pre ++ [(x, noRow)]) B ∧ Agree (fun k => k = b7 ∨ n₀ ≤ k) w2 B) := hY pre (x, noRow) w2 (by rw [← HE.out]; simp) (hJ _ wr w2 hJs A2) (by rw [← HE.out]; simp)
        obtain ⟨fn, tmps, assign, body, hy, hC⟩ := hYY
        clear X2 Y2
        gi_wp2
        refine hC.mono ?_
        rintro e W3 ⟨rfl, hJ3, hk3⟩
        have HE3 := Lib.hid (by have := HE.out; rwa [List.append_cons] at this)
        replace G1 := G1.agree hk3 (by omega)
        replace G2 := G2.agree hk3 (by omega)
        have HA3 := HA2.trans (hk3.mono hxy)
        clear HA2 hk3 HE t0 t1 t2 t3 hy hC
        gi_wp2
        gi_roundg ((n - 1) + 0)
        case measure => omega
        case rel => exact ⟨_, la, [], _, _, by rw [HLA.out]; simp, by rw [HLA.out]; omega, by simp, HE3, G1, G2, hJ3, HA3, Lib.hid fun B hB => ⟨RA.out B hB, RB.out B hB⟩⟩
      | cons y lb =>
        have hm1 : 1 ≤ m := by rw [← HM.out]; simp
        have hmz : (0 : Int) < (m : Int) := by omega
        have hm0 : ((m : Int) == 0) = false := by rw [beq_eq_false_iff_ne]; omega
        have HLB := Lib.hid (show lb.length = m - 1 by rw [← HM.out]; simp)
        obtain ⟨b2, off2, rfl, -⟩ := rb.at_ (i := 0) rfl
        have hnm : ¬ (n : Int) + (m : Int) ≤ 0 := by omega
        have hnp : 0 < n := by omega
        have hmp : 0 < m := by omega
        gi_upto_region 2 with fail
        obtain ⟨nx, hnx⟩ : ∃ nx, wr.heap.size = nx := ⟨_, rfl⟩
        obtain ⟨w1, hw1⟩ : ∃ w1, (wr.alloc (.cells #[.slice none 0 0, .slice none 0 0] 44)).alloc (.cells #[.slice none 0 0, .slice none 0 0] 44) = w1 := ⟨_, rfl⟩
        have B1 : Below wr.heap.size wr w1 := by rw [← hw1]; exact below_alloc' (below_new _ _)
        have X1 : Cel w1 nx 44 [.slice none 0 0, .slice none 0 0] := by rw [← hw1, ← hnx]; exact (Cel.new wr 44 [.slice none 0 0, .slice none 0 0]).keep (below_new _ _)
        have Y1 : Cel w1 (nx + 1) 44 [.slice none 0 0, .slice none 0 0] := by
          have := Cel.new (wr.alloc (.cells #[.slice none 0 0, .slice none 0 0] 44)) 44 [.slice none 0 0, .slice none 0 0]
          rw [World.size_alloc, hnx] at this
          rw [← hw1]; exact this
        have gx1 : g1 < nx := by rw [← hnx]; exact G1.lt
        have gx2 : g2 < nx := by rw [← hnx]; exact G2.lt
        rw [hnx, hw1]
        clear hw1
        replace G1 := G1.keep B1
        replace G2 := G2.keep B1
        have A1 : Agree (fun k => k = g1 ∨ k = g2) wr w1 := .of_below B1
        have ne1 : ¬ g1 = nx := by omega
        have ne2 : ¬ nx = g1 := by omega
        have ne3 : ¬ g2 = nx + 1 := by omega
        have ne4 : ¬ nx + 1 = g2 := by omega
        clear y1 y2 f1 f2 B1
        obtain ⟨r, hr⟩ : ∃ r, cmpT x.t y.t = r := ⟨_, rfl⟩
        have Rab := HR.out _ (HA.trans (A1.mono hxx))
        obtain ⟨_, _, e, c0, c1, rx⟩ := Rab.1.at_ (i := 0) rfl
        cases e
        obtain ⟨_, _, e, d0, d1, ry⟩ := Rab.2.at_ (i := 0) rfl
        cases e
        simp only [Nat.zero_mul, Nat.add_zero] at c0 c1 d0 d1
        have y1 := G1.at_ (j := 0) rfl
        have y2 := G2.at_ (j := 0) rfl
        gi_upto_region 3 with fail
        refine wpIn_wide.2 ?_
        replace c0 := After.cell c0
        replace c1 := After.cell c1
        replace d0 := After.cell d0
        replace d1 := After.cell d1
        replace y1 := After.cell y1
        replace y2 := After.cell y2
        refine wp_region_after (by kernel_rfl) (by kernel_rfl) ?_
        repeat (quiet_step ((go_at_call 73; exact byArgs_after rx ry _)))
        refine wpQuiet_nil ?_
        intro w9 hg9
        have q9 := hg9.below
        replace X1 := X1.keep q9
        replace Y1 := Y1.keep q9
        replace G1 := G1.keep q9
        replace G2 := G2.keep q9
        replace A1 := A1.trans (.of_below q9)
        clear c0 c1 d0 d1 y1 y2 q9 hg9 Rab rx ry
        obtain ⟨w1, hw1⟩ : ∃ z, w9 = z := ⟨_, rfl⟩
        rw [hw1] at X1 Y1 G1 G2 A1
        rw [hw1]
        clear hw1
        by_cases hlt : r < 0
        · have h1 : r < 0 := hlt
          have h1b : ¬ (0 : Int) ≤ r := by omega
          have h1c : ¬ (0 : Int) < r := by omega
          have h1d : r ≤ 0 := by omega
          have HE := Lib.hid (show pre ++ (x, noRow) :: pairsL la (y :: lb) = pairsL al bl by have := HP.out; rwa [pairs_lt (by omega)] at this)
          clear hr
          have Ra1 := (HR.out _ (HA.trans (A1.mono hxx))).1
          obtain ⟨_, _, e, c0, c1, -⟩ := Ra1.at_ (i := 0) rfl
          cases e
          simp only [Nat.zero_mul, Nat.add_zero] at c0 c1
          have t0 := G1.at_ (j := 0) rfl
          have t6 := G2.at_ (j := 0) rfl
          have t1 := G1.free 0
          have t2 := X1.at_ (j := 0) rfl
          have t3 := X1.at_ (j := 1) rfl
          have t4 := X1.free 0
          have t5 := X1.free 1
          gi_upto_region 9 with fail
          refine wpIn_wide.2 ?_
          go_region
          obtain ⟨pt, hpt⟩ : ∃ z, (if ca = 1 then some (⟨b, off, none⟩ : Addr) else some ⟨b, off + 2, none⟩) = z := ⟨_, rfl⟩
          rw [hpt]
          have Ta : Hid (∀ B, Agree (fun k => k = b7 ∨ k = g1 ∨ k = g2 ∨ n₀ ≤ k) W B → IsRel B (.slice pt (n - 1) (ca - 1)) la) := Lib.hid fun B hB => by rw [← hpt]; exact (HR.out B hB).1.tail
          have X2 : Cel (((w1.setCell ⟨nx, 0, none⟩ x.av).setCell ⟨nx, 1, none⟩ x.wv).setCell ⟨g1, 0, none⟩ (.slice pt (n - 1) (ca - 1))).drew nx 44 [x.av, x.wv] := (((X1.set 0 x.av).set 1 x.wv).other (p := ⟨g1, 0, none⟩) (by simp only; omega) _)
          have Y2 : Cel (((w1.setCell ⟨nx, 0, none⟩ x.av).setCell ⟨nx, 1, none⟩ x.wv).setCell ⟨g1, 0, none⟩ (.slice pt (n - 1) (ca - 1))).drew (nx + 1) 44 _ := (((Y1.other (p := ⟨nx, 0, none⟩) (by simp only; omega) _).other (p := ⟨nx, 1, none⟩) (by simp only; omega) _).other (p := ⟨g1, 0, none⟩) (by simp only; omega) _)
          have G1' : Cel (((w1.setCell ⟨nx, 0, none⟩ x.av).setCell ⟨nx, 1, none⟩ x.wv).setCell ⟨g1, 0, none⟩ (.slice pt (n - 1) (ca - 1))).drew g1 24 [.slice pt (n - 1) (ca - 1)] := (((G1.other (p := ⟨nx, 0, none⟩) (by simp only; omega) _).other (p := ⟨nx, 1, none⟩) (by simp only; omega) _).set 0 _)
          have G2' : Cel (((w1.setCell ⟨nx, 0, none⟩ x.av).setCell ⟨nx, 1, none⟩ x.wv).setCell ⟨g1, 0, none⟩ (.slice pt (n - 1) (ca - 1))).drew g2 24 _ := (((G2.other (p := ⟨nx, 0, none⟩) (by simp only; omega) _).other (p := ⟨nx, 1, none⟩) (by simp only; omega) _).other (p := ⟨g1, 0, none⟩) (by simp only; omega) _)
          have A2 : Agree (fun k => k = g1 ∨ k = g2) wr (((w1.setCell ⟨nx, 0, none⟩ x.av).setCell ⟨nx, 1, none⟩ x.wv).setCell ⟨g1, 0, none⟩ (.slice pt (n - 1) (ca - 1))).drew := (((A1.setCell (p := ⟨nx, 0, none⟩) (.inr (by simp only; omega)) _).setCell (p := ⟨nx, 1, none⟩) (.inr (by simp only; omega)) _).setCell (p := ⟨g1, 0, none⟩) (.inl (.inl rfl)) _).drew
          clear t0 t1 t2 t3 t4 t5 t6 c0 c1 G1 G2 X1 Y1 A1 hpt Ra1
          have G1 := G1'
          have G2 := G2'
          clear G1' G2'
          generalize World.drew _ = w2 at *
          have RA := Ta
          have RB : Hid (∀ B, Agree (fun k => k = b7 ∨ k = g1 ∨ k = g2 ∨ n₀ ≤ k) W B → IsRel B (.slice (some ⟨b2, off2, none⟩) m cb) (y :: lb)) := Lib.hid fun B hB => (HR.out B hB).2
          have t0 := X2.at_ (j := 0) rfl
          have t1 := X2.at_ (j := 1) rfl
          have t2 := Y2.at_ (j := 0) rfl
          have t3 := Y2.at_ (j := 1) rfl
          have HA2 := HA.trans (A2.mono hxx)
          have hYY : YieldAt Fence.wide 2 Tryd.prog l #[.agg #[x.av, x.wv], .agg #[.slice none 0 0, .slice none 0 0]] w2 (fun e B => e = .returned (.bool true) ∧ J (pre ++ [(x, noRow)]) B ∧ Agree (fun k => k = b7 ∨ n₀ ≤ k) w2 B) := hY pre (x, noRow) w2 (by rw [← HE.out]; simp) (hJ _ wr w2 hJs A2) (by rw [← HE.out]; simp)
          obtain ⟨fn, tmps, assign, body, hy, hC⟩ := hYY
          clear X2 Y2
          gi_wp2
          refine hC.mono ?_
          rintro e W3 ⟨rfl, hJ3, hk3⟩
          have HE3 := Lib.hid (by have := HE.out; rwa [List.append_cons] at this)
          replace G1 := G1.agree hk3 (by omega)
          replace G2 := G2.agree hk3 (by omega)
          have HA3 := HA2.trans (hk3.mono hxy)
          clear HA2 hk3 HE t0 t1 t2 t3 hy hC
          gi_wp2
          gi_roundg ((n - 1) + m)
          case measure => omega
          case rel => exact ⟨_, la, (y :: lb), _, _, by rw [HLA.out, HM.out]; exact Nat.le_refl _, by rw [HLA.out]; omega, by rw [HM.out]; omega, HE3, G1, G2, hJ3, HA3, Lib.hid fun B hB => ⟨RA.out B hB, RB.out B hB⟩⟩
        · by_cases heq : r = 0
          · subst heq
            have HE := Lib.hid (show pre ++ (x, y) :: pairsL la lb = pairsL al bl by have := HP.out; rwa [pairs_eq hr] at this)
            clear hr hlt
            have Ra1 := (HR.out _ (HA.trans (A1.mono hxx))).1
            obtain ⟨_, _, e, c0, c1, -⟩ := Ra1.at_ (i := 0) rfl
            cases e
            simp only [Nat.zero_mul, Nat.add_zero] at c0 c1
            have t0 := G1.at_ (j := 0) rfl
            have t6 := G2.at_ (j := 0) rfl
            have t1 := G1.free 0
            have t2 := X1.at_ (j := 0) rfl
            have t3 := X1.at_ (j := 1) rfl
            have t4 := X1.free 0
            have t5 := X1.free 1
            gi_upto_region 9 with fail
            refine wpIn_wide.2 ?_
            go_region
            obtain ⟨pt, hpt⟩ : ∃ z, (if ca = 1 then some (⟨b, off, none⟩ : Addr) else some ⟨b, off + 2, none⟩) = z := ⟨_, rfl⟩
            rw [hpt]
            have Ta : Hid (∀ B, Agree (fun k => k = b7 ∨ k = g1 ∨ k = g2 ∨ n₀ ≤ k) W B → IsRel B (.slice pt (n - 1) (ca - 1)) la) := Lib.hid fun B hB => by rw [← hpt]; exact (HR.out B hB).1.tail
            have X2 : Cel (((w1.setCell ⟨nx, 0, none⟩ x.av).setCell ⟨nx, 1, none⟩ x.wv).setCell ⟨g1, 0, none⟩ (.slice pt (n - 1) (ca - 1))).drew nx 44 [x.av, x.wv] := (((X1.set 0 x.av).set 1 x.wv).other (p := ⟨g1, 0, none⟩) (by simp only; omega) _)
            have Y2 : Cel (((w1.setCell ⟨nx, 0, none⟩ x.av).setCell ⟨nx, 1, none⟩ x.wv).setCell ⟨g1, 0, none⟩ (.slice pt (n - 1) (ca - 1))).drew (nx + 1) 44 _ := (((Y1.other (p := ⟨nx, 0, none⟩) (by simp only; omega) _).other (p := ⟨nx, 1, none⟩) (by simp only; omega) _).other (p := ⟨g1, 0, none⟩) (by simp only; omega) _)
            have G1' : Cel (((w1.setCell ⟨nx, 0, none⟩ x.av).setCell ⟨nx, 1, none⟩ x.wv).setCell ⟨g1, 0, none⟩ (.slice pt (n - 1) (ca - 1))).drew g1 24 [.slice pt (n - 1) (ca - 1)] := (((G1.other (p := ⟨nx, 0, none⟩) (by simp only; omega) _).other (p := ⟨nx, 1, none⟩) (by simp only; omega) _).set 0 _)
            have G2' : Cel (((w1.setCell ⟨nx, 0, none⟩ x.av).setCell ⟨nx, 1, none⟩ x.wv).setCell ⟨g1, 0, none⟩ (.slice pt (n - 1) (ca - 1))).drew g2 24 _ := (((G2.other (p := ⟨nx, 0, none⟩) (by simp only; omega) _).other (p := ⟨nx, 1, none⟩) (by simp only; omega) _).other (p := ⟨g1, 0, none⟩) (by simp only; omega) _)
            have A2 : Agree (fun k => k = g1 ∨ k = g2) wr (((w1.setCell ⟨nx, 0, none⟩ x.av).setCell ⟨nx, 1, none⟩ x.wv).setCell ⟨g1, 0, none⟩ (.slice pt (n - 1) (ca - 1))).drew := (((A1.setCell (p := ⟨nx, 0, none⟩) (.inr (by simp only; omega)) _).setCell (p := ⟨nx, 1, none⟩) (.inr (by simp only; omega)) _).setCell (p := ⟨g1, 0, none⟩) (.inl (.inl rfl)) _).drew
            clear t0 t1 t2 t3 t4 t5 t6 c0 c1 G1 G2 X1 Y1 A1 hpt Ra1
            have G1 := G1'
            have G2 := G2'
            clear G1' G2'
            generalize World.drew _ = w2 at *
            have Rb2 := (HR.out _ (HA.trans (A2.mono hxx))).2
            obtain ⟨_, _, e, d0, d1, -⟩ := Rb2.at_ (i := 0) rfl
            cases e
            simp only [Nat.zero_mul, Nat.add_zero] at d0 d1
            have t0 := G2.at_ (j := 0) rfl
            have t6 := G1.at_ (j := 0) rfl
            have t1 := G2.free 0
            have t2 := Y2.at_ (j := 0) rfl
            have t3 := Y2.at_ (j := 1) rfl
            have t4 := Y2.free 0
            have t5 := Y2.free 1
            gi_upto_region 11 with fail
            refine wpIn_wide.2 ?_
            go_region
            obtain ⟨pt2, hpt2⟩ : ∃ z, (if cb = 1 then some (⟨b2, off2, none⟩ : Addr) else some ⟨b2, off2 + 2, none⟩) = z := ⟨_, rfl⟩
            rw [hpt2]
            have Tb : Hid (∀ B, Agree (fun k => k = b7 ∨ k = g1 ∨ k = g2 ∨ n₀ ≤ k) W B → IsRel B (.slice pt2 (m - 1) (cb - 1)) lb) := Lib.hid fun B hB => by rw [← hpt2]; exact (HR.out B hB).2.tail
            have Y3 : Cel (((w2.setCell ⟨nx + 1, 0, none⟩ y.av).setCell ⟨nx + 1, 1, none⟩ y.wv).setCell ⟨g2, 0, none⟩ (.slice pt2 (m - 1) (cb - 1))).drew (nx + 1) 44 [y.av, y.wv] := (((Y2.set 0 y.av).set 1 y.wv).other (p := ⟨g2, 0, none⟩) (by simp only; omega) _)
            have X3 : Cel (((w2.setCell ⟨nx + 1, 0, none⟩ y.av).setCell ⟨nx + 1, 1, none⟩ y.wv).setCell ⟨g2, 0, none⟩ (.slice pt2 (m - 1) (cb - 1))).drew nx 44 _ := (((X2.other (p := ⟨nx + 1, 0, none⟩) (by simp only; omega) _).other (p := ⟨nx + 1, 1, none⟩) (by simp only; omega) _).other (p := ⟨g2, 0, none⟩) (by simp only; omega) _)
            have G2' : Cel (((w2.setCell ⟨nx + 1, 0, none⟩ y.av).setCell ⟨nx + 1, 1, none⟩ y.wv).setCell ⟨g2, 0, none⟩ (.slice pt2 (m - 1) (cb - 1))).drew g2 24 [.slice pt2 (m - 1) (cb - 1)] := (((G2.other (p := ⟨nx + 1, 0, none⟩) (by simp only; omega) _).other (p := ⟨nx + 1, 1, none⟩) (by simp only; omega) _).set 0 _)
            have G1' : Cel (((w2.setCell ⟨nx + 1, 0, none⟩ y.av).setCell ⟨nx + 1, 1, none⟩ y.wv).setCell ⟨g2, 0, none⟩ (.slice pt2 (m - 1) (cb - 1))).drew g1 24 _ := (((G1.other (p := ⟨nx + 1, 0, none⟩) (by simp only; omega) _).other (p := ⟨nx + 1, 1, none⟩) (by simp only; omega) _).other (p := ⟨g2, 0, none⟩) (by simp only; omega) _)
            have A3 : Agree (fun k => k = g1 ∨ k = g2) wr (((w2.setCell ⟨nx + 1, 0, none⟩ y.av).setCell ⟨nx + 1, 1, none⟩ y.wv).setCell ⟨g2, 0, none⟩ (.slice pt2 (m - 1) (cb - 1))).drew := (((A2.setCell (p := ⟨nx + 1, 0, none⟩) (.inr (by simp only; omega)) _).setCell (p := ⟨nx + 1, 1, none⟩) (.inr (by simp only; omega)) _).setCell (p := ⟨g2, 0, none⟩) (.inl (.inr rfl)) _).drew
            clear t0 t1 t2 t3 t4 t5 t6 d0 d1 G1 G2 X2 Y2 A2 hpt2 Rb2
            have G1 := G1'
            have G2 := G2'
            clear G1' G2'
            generalize World.drew _ = w3 at *
            have RA := Ta
            have RB := Tb
            have t0 := X3.at_ (j := 0) rfl
            have t1 := X3.at_ (j := 1) rfl
            have t2 := Y3.at_ (j := 0) rfl
            have t3 := Y3.at_ (j := 1) rfl
            have HA2 := HA.trans (A3.mono hxx)
            have hYY : YieldAt Fence.wide 2 Tryd.prog l #[.agg #[x.av, x.wv], .agg #[y.av, y.wv]] w3 (fun e B => e = .returned (.bool true) ∧ J (pre ++ [(x, y)]) B ∧ Agree (fun k => k = b7 ∨ n₀ ≤ k) w3 B) := hY pre (x, y) w3 (by rw [← HE.out]; simp) (hJ _ wr w3 hJs A3) (by rw [← HE.out]; simp)
            obtain ⟨fn, tmps, assign, body, hy, hC⟩ := hYY
            clear X3 Y3
            gi_wp2
            refine hC.mono ?_
            rintro e W3 ⟨rfl, hJ3, hk3⟩
            have HE3 := Lib.hid (by have := HE.out; rwa [List.append_cons] at this)
            replace G1 := G1.agree hk3 (by omega)
            replace G2 := G2.agree hk3 (by omega)
            have HA3 := HA2.trans (hk3.mono hxy)
            clear HA2 hk3 HE t0 t1 t2 t3 hy hC
            gi_wp2
            gi_roundg ((n - 1) + (m - 1))
            case measure => omega
            case rel => exact ⟨_, la, lb, _, _, by rw [HLA.out, HLB.out]; exact Nat.le_refl _, by rw [HLA.out]; omega, by rw [HLB.out]; omega, HE3, G1, G2, hJ3, HA3, Lib.hid fun B hB => ⟨RA.out B hB, RB.out B hB⟩⟩
          · have h1 : 0 < r := by omega
            have h1b : (0 : Int) ≤ r := by omega
            have h1d : ¬ r ≤ 0 := by omega
            have HE := Lib.hid (show pre ++ (argsRow y, y) :: pairsL (x :: la) lb = pairsL al bl by have := HP.out; rwa [pairs_gt (by omega)] at this)
            clear hr hlt heq
            have Rb1 := (HR.out _ (HA.trans (A1.mono hxx))).2
            obtain ⟨_, _, e, d0, d1, -⟩ := Rb1.at_ (i := 0) rfl
            cases e
            simp only [Nat.zero_mul, Nat.add_zero] at d0 d1
            have t0 := G2.at_ (j := 0) rfl
            have t6 := G1.at_ (j := 0) rfl
            have t1 := G2.free 0
            have t2 := Y1.at_ (j := 0) rfl
            have t3 := Y1.at_ (j := 1) rfl
            have t4 := Y1.free 0
            have t5 := Y1.free 1
            gi_upto_region 11 with fail
            refine wpIn_wide.2 ?_
            go_region
            obtain ⟨pt2, hpt2⟩ : ∃ z, (if cb = 1 then some (⟨b2, off2, none⟩ : Addr) else some ⟨b2, off2 + 2, none⟩) = z := ⟨_, rfl⟩
            rw [hpt2]
            have Tb : Hid (∀ B, Agree (fun k => k = b7 ∨ k = g1 ∨ k = g2 ∨ n₀ ≤ k) W B → IsRel B (.slice pt2 (m - 1) (cb - 1)) lb) := Lib.hid fun B hB => by rw [← hpt2]; exact (HR.out B hB).2.tail
            have Y2 : Cel (((w1.setCell ⟨nx + 1, 0, none⟩ y.av).setCell ⟨nx + 1, 1, none⟩ y.wv).setCell ⟨g2, 0, none⟩ (.slice pt2 (m - 1) (cb - 1))).drew (nx + 1) 44 [y.av, y.wv] := (((Y1.set 0 y.av).set 1 y.wv).other (p := ⟨g2, 0, none⟩) (by simp only; omega) _)
            have X2 : Cel (((w1.setCell ⟨nx + 1, 0, none⟩ y.av).setCell ⟨nx + 1, 1, none⟩ y.wv).setCell ⟨g2, 0, none⟩ (.slice pt2 (m - 1) (cb - 1))).drew nx 44 _ := (((X1.other (p := ⟨nx + 1, 0, none⟩) (by simp only; omega) _).other (p := ⟨nx + 1, 1, none⟩) (by simp only; omega) _).other (p := ⟨g2, 0, none⟩) (by simp only; omega) _)
            have G2' : Cel (((w1.setCell ⟨nx + 1, 0, none⟩ y.av).setCell ⟨nx + 1, 1, none⟩ y.wv).setCell ⟨g2, 0, none⟩ (.slice pt2 (m - 1) (cb - 1))).drew g2 24 [.slice pt2 (m - 1) (cb - 1)] := (((G2.other (p := ⟨nx + 1, 0, none⟩) (by simp only; omega) _).other (p := ⟨nx + 1, 1, none⟩) (by simp only; omega) _).set 0 _)
            have G1' : Cel (((w1.setCell ⟨nx + 1, 0, none⟩ y.av).setCell ⟨nx + 1, 1, none⟩ y.wv).setCell ⟨g2, 0, none⟩ (.slice pt2 (m - 1) (cb - 1))).drew g1 24 _ := (((G1.other (p := ⟨nx + 1, 0, none⟩) (by simp only; omega) _).other (p := ⟨nx + 1, 1, none⟩) (by simp only; omega) _).other (p := ⟨g2, 0, none⟩) (by simp only; omega) _)
            have A2 : Agree (fun k => k = g1 ∨ k = g2) wr (((w1.setCell ⟨nx + 1, 0, none⟩ y.av).setCell ⟨nx + 1, 1, none⟩ y.wv).setCell ⟨g2, 0, none⟩ (.slice pt2 (m - 1) (cb - 1))).drew := (((A1.setCell (p := ⟨nx + 1, 0, none⟩) (.inr (by simp only; omega)) _).setCell (p := ⟨nx + 1, 1, none⟩) (.inr (by simp only; omega)) _).setCell (p := ⟨g2, 0, none⟩) (.inl (.inr rfl)) _).drew
            clear t0 t1 t2 t3 t4 t5 t6 d0 d1 G1 G2 X1 Y1 A1 hpt2 Rb1
            have G1 := G1'
            have G2 := G2'
            clear G1' G2'
            generalize World.drew _ = w2 at *
            have t0 := Y2.at_ (j := 0) rfl
            have t2 := X2.at_ (j := 0) rfl
            have t4 := X2.free 0
            have X3 := X2.set 0 y.av
            have Y3 := Y2.other (p := ⟨nx, 0, none⟩) (by simp only; omega) y.av
            replace G1 := G1.other (p := ⟨nx, 0, none⟩) (by simp only; omega) y.av
            replace G2 := G2.other (p := ⟨nx, 0, none⟩) (by simp only; omega) y.av
            have A3 := A2.setCell (p := ⟨nx, 0, none⟩) (.inr (by simp only; omega)) y.av
            gi_upto_region 14 with fail
            clear t0 t2 t4 X2 Y2 A2
            generalize w2.setCell _ _ = w3 at *
            have RA : Hid (∀ B, Agree (fun k => k = b7 ∨ k = g1 ∨ k = g2 ∨ n₀ ≤ k) W B → IsRel B (.slice (some ⟨b, off, none⟩) n ca) (x :: la)) := Lib.hid fun B hB => (HR.out B hB).1
            have RB := Tb
            have t0 := X3.at_ (j := 0) rfl
            have t1 := X3.at_ (j := 1) rfl
            have t2 := Y3.at_ (j := 0) rfl
            have t3 := Y3.at_ (j := 1) rfl
            have HA2 := HA.trans (A3.mono hxx)
            have hYY : YieldAt Fence.wide 2 Tryd.prog l #[.agg #[y.av, .slice none 0 0], .agg #[y.av, y.wv]] w3 (fun e B => e = .returned (.bool true) ∧ J (pre ++ [(argsRow y, y)]) B ∧ Agree (fun k => k = b7 ∨ n₀ ≤ k) w3 B) := hY pre (argsRow y, y) w3 (by rw [← HE.out]; simp) (hJ _ wr w3 hJs A3) (by rw [← HE.out]; simp)
            obtain ⟨fn, tmps, assign, body, hy, hC⟩ := hYY
            clear X3 Y3
            gi_wp2
            refine hC.mono ?_
            rintro e W3 ⟨rfl, hJ3, hk3⟩
            have HE3 := Lib.hid (by have := HE.out; rwa [List.append_cons] at this)
            replace G1 := G1.agree hk3 (by omega)
            replace G2 := G2.agree hk3 (by omega)
            have HA3 := HA2.trans (hk3.mono hxy)
            clear HA2 hk3 HE t0 t1 t2 t3 hy hC
            gi_wp2
            gi_roundg (n + (m - 1))
            case measure => omega
            case rel => exact ⟨_, (x :: la), lb, _, _, by rw [HN.out, HLB.out]; exact Nat.le_refl _, by rw [HN.out]; omega, by rw [HLB.out]; omega, HE3, G1, G2, hJ3, HA3, Lib.hid fun B hB => ⟨RA.out B hB, RB.out B hB⟩⟩
end Go.Proofs.YtdibijhaiaiifaaDoor
