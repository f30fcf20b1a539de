/- The walk of check. -/
import Derived.Test.YtkjlflmcojmfgaaDoorChk
import Derived.Deep.Light
namespace Go.Proofs.YtkjlflmcojmfgaaDoor
open Go.RowKit
def CheckRet (L : Ltc) (w : World) (e : Ending) (w' : World) : Prop := ∃ l : List Int, e = .returned (.tuple #[ordV l, .int .i64 (checkL L)]) ∧ l.length = 8 ∧ (checkL L = 0 → IsOrd l (ordL L)) ∧ Below w.heap.size w w'
theorem IsOrd.none : IsOrd [0, 0, 0, 0, 0, 0, 0, 0] (fun _ _ => false) := by
  refine ⟨rfl, fun a x hx => ?_⟩
  have : x ∈ [(0 : Int), 0, 0, 0, 0, 0, 0, 0] := List.mem_of_getElem? hx
  obtain rfl : x = 0 := by simpa using this
  exact Bits.zero
theorem IsNames.take {w : World} {a : Option Addr} {n c : Nat} {l : List Nm} (h : IsNames w (.slice a n c) l) {k : Nat} (hk : k ≤ l.length) : IsNames w (.slice a k c) (l.take k) := by
  obtain ⟨a', c', e, h1, h2, h3, h4⟩ := h
  injection e with e1 e2 e3
  subst e1 e3
  have hl : (l.take k).length = k := by rw [List.length_take]; omega
  refine ⟨a, c, by rw [hl], ?_, by omega, by omega, h4⟩
  rcases h1 with h1 | ⟨b, off, ha, hc⟩
  · left; rw [h1]; simp
  · refine .inr ⟨b, off, ha, fun i x hi => hc i x ?_⟩
    rw [List.getElem?_take] at hi
    split at hi
    · exact hi
    · cases hi
theorem OrdAt.set8 {w : World} {β : Nat} {y0 y1 y2 y3 y4 y5 y6 y7 : Int} (h : OrdAt w β [y0, y1, y2, y3, y4, y5, y6, y7]) (q0 q1 q2 q3 q4 q5 q6 q7 : Int) :
    OrdAt ((((((((w.setCell ⟨β, 0, none⟩ (.int .u8 q0)).setCell ⟨β, 1, none⟩ (.int .u8 q1)).setCell ⟨β, 2, none⟩ (.int .u8 q2)).setCell ⟨β, 3, none⟩ (.int .u8 q3)).setCell ⟨β, 4, none⟩ (.int .u8 q4)).setCell ⟨β, 5, none⟩ (.int .u8 q5)).setCell ⟨β, 6, none⟩ (.int .u8 q6)).setCell ⟨β, 7, none⟩ (.int .u8 q7)) β [q0, q1, q2, q3, q4, q5, q6, q7] :=
  (((((((h.set 0 q0).set 1 q1).set 2 q2).set 3 q3).set 4 q4).set 5 q5).set 6 q6).set 7 q7
theorem below_set8 {w0 w : World} {B β : Nat} (q0 q1 q2 q3 q4 q5 q6 q7 : Value) (hb : Below B w0 w) (h : B ≤ β) :
    Below B w0 ((((((((w.setCell ⟨β, 0, none⟩ q0).setCell ⟨β, 1, none⟩ q1).setCell ⟨β, 2, none⟩ q2).setCell ⟨β, 3, none⟩ q3).setCell ⟨β, 4, none⟩ q4).setCell ⟨β, 5, none⟩ q5).setCell ⟨β, 6, none⟩ q6).setCell ⟨β, 7, none⟩ q7) :=
  (((((((hb.setCell (p := ⟨β, 0, none⟩) h q0).setCell (p := ⟨β, 1, none⟩) h q1).setCell (p := ⟨β, 2, none⟩) h q2).setCell (p := ⟨β, 3, none⟩) h q3).setCell (p := ⟨β, 4, none⟩) h q4).setCell (p := ⟨β, 5, none⟩) h q5).setCell (p := ⟨β, 6, none⟩) h q6).setCell (p := ⟨β, 7, none⟩) h q7
theorem closed_x {y0 y1 y2 y3 y4 y5 y6 y7 : Int} {o : Rl2} {n : Nat} {w : World} (ho : IsOrd [y0, y1, y2, y3, y4, y5, y6, y7] o) (hr : ∀ a b, o a b = true → a < n ∧ b < n) (hn : n ≤ 8) :
    Calls Tryd.prog 42 #[.agg #[.int .u8 y0, .int .u8 y1, .int .u8 y2, .int .u8 y3, .int .u8 y4, .int .u8 y5, .int .u8 y6, .int .u8 y7], .int .i64 n] w fun e w' => ∃ q0 q1 q2 q3 q4 q5 q6 q7 : Int, e = .returned (.agg #[.int .u8 q0, .int .u8 q1, .int .u8 q2, .int .u8 q3, .int .u8 q4, .int .u8 q5, .int .u8 q6, .int .u8 q7]) ∧ IsOrd [q0, q1, q2, q3, q4, q5, q6, q7] (warsh n o) ∧ Below w.heap.size w w' :=
  (closed_any _ o n w ho hr hn).mono fun e w' ⟨l', he, hl, hb⟩ => by
    obtain ⟨q0, q1, q2, q3, q4, q5, q6, q7, rfl⟩ := eight hl.len
    exact ⟨q0, q1, q2, q3, q4, q5, q6, q7, he, hl, hb⟩
theorem bits_full {n : Nat} (hn : n ≤ 8) : Bits (IntKind.u8.wrap (IntKind.u8.wrap (2 ^ n) - 1)) (fun b => decide (b < n)) := by
  have e : IntKind.u8.wrap (IntKind.u8.wrap (2 ^ n) - 1) = ((2 ^ n - 1 : Nat) : Int) := by
    match n, hn with
    | 0, _ | 1, _ | 2, _ | 3, _ | 4, _ | 5, _ | 6, _ | 7, _ | 8, _ => decide
  rw [e]; exact Bits.all hn
theorem least_ts {y0 y1 y2 y3 y4 y5 y6 y7 : Int} {o : Rl2} {s : Int} {S : Nat → Bool} {n : Nat} {m : Int} {w : World} {Q : Ending → World → Prop} (ho : Hid (IsOrd [y0, y1, y2, y3, y4, y5, y6, y7] o)) (hs : Bits s S) (hS : ∀ b, b < 8 → S b = true → b < n) (hn : n ≤ 8) (hm : Hid (leastOf n o S = m))
    (k : ∀ w', Below w.heap.size w w' → Q (.returned (.int .i64 m)) w') :
    Calls Tryd.prog 38 #[.agg #[.int .u8 y0, .int .u8 y1, .int .u8 y2, .int .u8 y3, .int .u8 y4, .int .u8 y5, .int .u8 y6, .int .u8 y7], .int .u8 s, .int .i64 n] w Q :=
  (least_any _ o s S n w ho.out hs hS hn).mono fun e w' ⟨he, hb⟩ => by subst he; rw [hm.out]; exact k w' hb
theorem bits_pow {k : Nat} (hk : k < 8) : Bits ((2 : Int) ^ k % 256) (fun b => decide (k = b)) := by
  have h : (2 : Nat) ^ k < 256 := by
    have : 2 ^ k ≤ 2 ^ 7 := Nat.pow_le_pow_right (by decide) (by omega)
    omega
  have e : (2 : Int) ^ k % 256 = ((2 ^ k : Nat) : Int) := by
    rw [show (2 : Int) ^ k = ((2 ^ k : Nat) : Int) by simp]
    generalize (2 : Nat) ^ k = m at *
    omega
  rw [e]; exact Bits.one hk
set_option maxHeartbeats 16000000 in
set_option maxRecDepth 100000 in
theorem check_any (v : Value) (L : Ltc) (w : World) (h : IsLtc w v L) (hK : KeysAt w 0) : Calls Tryd.prog 30 #[v] w (CheckRet L w) := by
  obtain ⟨ea, ec, ca, cc, rfl, he, hc, m1, m2, m3, m4⟩ := h.shape
  obtain ⟨C, hC⟩ : ∃ C, C = Obj.cells #[.string L.name.1, .slice ea L.elems.length ec, .slice ca L.covers.length cc, .int .i64 L.at_] 25 := ⟨_, rfl⟩
  obtain ⟨Z, hZ⟩ : ∃ Z, Z = Obj.cells #[.int .u8 0, .int .u8 0, .int .u8 0, .int .u8 0, .int .u8 0, .int .u8 0, .int .u8 0, .int .u8 0] 48 := ⟨_, rfl⟩
  obtain ⟨wb, hwb⟩ : ∃ x : World, x = ((w.alloc C).alloc Z).alloc Z := ⟨_, rfl⟩
  have b0 : Below w.heap.size w wb := by subst hwb; exact below_trans (below_new w C) (below_trans (below_new _ _) (below_new _ _))
  have g1 : wb.heap[w.heap.size]? = some (.cells #[.string L.name.1, .slice ea L.elems.length ec, .slice ca L.covers.length cc, .int .i64 L.at_] 25 (0, 0)) := by
    subst hwb hC; exact block_keep (heap_alloc_new w _) (below_trans (below_new _ _) (below_new _ _))
  have hZ2 : OrdAt wb (w.heap.size + 1) [0, 0, 0, 0, 0, 0, 0, 0] := by
    subst hwb hZ
    have := heap_alloc_new (w.alloc C) (.cells #[.int .u8 0, .int .u8 0, .int .u8 0, .int .u8 0, .int .u8 0, .int .u8 0, .int .u8 0, .int .u8 0] 48)
    exact block_keep (by simpa using this) (below_new _ _)
  have hA : OrdAt wb (w.heap.size + 1 + 1) [0, 0, 0, 0, 0, 0, 0, 0] := by
    subst hwb hZ
    have := heap_alloc_new ((w.alloc C).alloc (.cells #[.int .u8 0, .int .u8 0, .int .u8 0, .int .u8 0, .int .u8 0, .int .u8 0, .int .u8 0, .int .u8 0] 48)) (.cells #[.int .u8 0, .int .u8 0, .int .u8 0, .int .u8 0, .int .u8 0, .int .u8 0, .int .u8 0, .int .u8 0] 48)
    unfold OrdAt
    simpa using this
  have hsb : w.heap.size + 1 + 1 < wb.heap.size := by subst hwb; simp
  obtain ⟨l0, hl0⟩ : ∃ l0 : List Int, l0 = [0, 0, 0, 0, 0, 0, 0, 0] := ⟨_, rfl⟩
  have HI0 : Hid (IsOrd l0 (fun _ _ => false)) := Lib.hid (by rw [hl0]; exact IsOrd.none)
  rw [← hl0] at hA
  clear hl0
  have hKb := hK.keep (keeps_below b0)
  by_cases hnm : nameOk L.name = false
  · have HNM := Lib.hid hnm
    have HF := Lib.hid (check_name hnm)
    clear hnm
    go_enter Tryd.func30, Tryd.ntmps30
    obtain ⟨y0', y1', y2', y3'⟩ := Box4.of g1
    go_wp2_with fail
    rw [← hC, ← hZ, ← hwb]
    refine (name_any L.name _ hKb).mono ?_
    rintro e w3 ⟨rfl, b3⟩
    rw [HNM.out]
    clear y0' y1' y2' y3'
    have g3 := block_keep g1 b3
    obtain ⟨y0', y1', y2', y3'⟩ := Box4.of g3
    replace hA := hA.keep b3
    replace hZ2 := hZ2.keep b3
    replace b0 := below_trans b0 b3
    obtain ⟨y0, y1, y2, y3, y4, y5, y6, y7, rfl⟩ := eight HI0.out.len
    have r0 := hA.cell (a := 0) rfl
    have r1 := hA.cell (a := 1) rfl
    have r2 := hA.cell (a := 2) rfl
    have r3 := hA.cell (a := 3) rfl
    have r4 := hA.cell (a := 4) rfl
    have r5 := hA.cell (a := 5) rfl
    have r6 := hA.cell (a := 6) rfl
    have r7 := hA.cell (a := 7) rfl
    have z0 := hZ2.cell (a := 0) rfl
    have z1 := hZ2.cell (a := 1) rfl
    have z2 := hZ2.cell (a := 2) rfl
    have z3 := hZ2.cell (a := 3) rfl
    have z4 := hZ2.cell (a := 4) rfl
    have z5 := hZ2.cell (a := 5) rfl
    have z6 := hZ2.cell (a := 6) rfl
    have z7 := hZ2.cell (a := 7) rfl
    have hf := fun a => hZ2.free (a := a)
    go_wp2
    refine bodyPost_ret (v := .tuple #[.agg #[.int .u8 y0, .int .u8 y1, .int .u8 y2, .int .u8 y3, .int .u8 y4, .int .u8 y5, .int .u8 y6, .int .u8 y7], .int .i64 1]) (by simp [results, Tryd.results30, go_sem, z0, z1, z2, z3, z4, z5, z6, z7]) rfl ?_
    exact ⟨[y0, y1, y2, y3, y4, y5, y6, y7], by rw [HF.out]; rfl, rfl, fun h => absurd (HF.out.symm.trans h) (by decide), ((((((((b0.setCell (p := ⟨w.heap.size + 1, 0, none⟩) (by simp) _).setCell (p := ⟨w.heap.size + 1, 1, none⟩) (by simp) _).setCell (p := ⟨w.heap.size + 1, 2, none⟩) (by simp) _).setCell (p := ⟨w.heap.size + 1, 3, none⟩) (by simp) _).setCell (p := ⟨w.heap.size + 1, 4, none⟩) (by simp) _).setCell (p := ⟨w.heap.size + 1, 5, none⟩) (by simp) _).setCell (p := ⟨w.heap.size + 1, 6, none⟩) (by simp) _).setCell (p := ⟨w.heap.size + 1, 7, none⟩) (by simp) _)⟩
  have HNM := Lib.hid (Bool.not_eq_false _ ▸ hnm : nameOk L.name = true)
  clear hnm
  by_cases hn1 : ¬ 1 ≤ L.elems.length
  · have HF := Lib.hid (check_few hn1)
    have q1 : decide ((L.elems.length : Int) < 1) = true := decide_eq_true (by omega)
    go_enter Tryd.func30, Tryd.ntmps30
    obtain ⟨y0', y1', y2', y3'⟩ := Box4.of g1
    go_wp2_with fail
    rw [← hC, ← hZ, ← hwb]
    refine (name_any L.name _ hKb).mono ?_
    rintro e w3 ⟨rfl, b3⟩
    rw [HNM.out]
    clear y0' y1' y2' y3'
    have g3 := block_keep g1 b3
    obtain ⟨y0', y1', y2', y3'⟩ := Box4.of g3
    replace hA := hA.keep b3
    replace hZ2 := hZ2.keep b3
    replace b0 := below_trans b0 b3
    obtain ⟨y0, y1, y2, y3, y4, y5, y6, y7, rfl⟩ := eight HI0.out.len
    have r0 := hA.cell (a := 0) rfl
    have r1 := hA.cell (a := 1) rfl
    have r2 := hA.cell (a := 2) rfl
    have r3 := hA.cell (a := 3) rfl
    have r4 := hA.cell (a := 4) rfl
    have r5 := hA.cell (a := 5) rfl
    have r6 := hA.cell (a := 6) rfl
    have r7 := hA.cell (a := 7) rfl
    have z0 := hZ2.cell (a := 0) rfl
    have z1 := hZ2.cell (a := 1) rfl
    have z2 := hZ2.cell (a := 2) rfl
    have z3 := hZ2.cell (a := 3) rfl
    have z4 := hZ2.cell (a := 4) rfl
    have z5 := hZ2.cell (a := 5) rfl
    have z6 := hZ2.cell (a := 6) rfl
    have z7 := hZ2.cell (a := 7) rfl
    have hf := fun a => hZ2.free (a := a)
    go_wp2
    refine bodyPost_ret (v := .tuple #[.agg #[.int .u8 y0, .int .u8 y1, .int .u8 y2, .int .u8 y3, .int .u8 y4, .int .u8 y5, .int .u8 y6, .int .u8 y7], .int .i64 1]) (by simp [results, Tryd.results30, go_sem, z0, z1, z2, z3, z4, z5, z6, z7]) rfl ?_
    exact ⟨[y0, y1, y2, y3, y4, y5, y6, y7], by rw [HF.out]; rfl, rfl, fun h => absurd (HF.out.symm.trans h) (by decide), ((((((((b0.setCell (p := ⟨w.heap.size + 1, 0, none⟩) (by simp) _).setCell (p := ⟨w.heap.size + 1, 1, none⟩) (by simp) _).setCell (p := ⟨w.heap.size + 1, 2, none⟩) (by simp) _).setCell (p := ⟨w.heap.size + 1, 3, none⟩) (by simp) _).setCell (p := ⟨w.heap.size + 1, 4, none⟩) (by simp) _).setCell (p := ⟨w.heap.size + 1, 5, none⟩) (by simp) _).setCell (p := ⟨w.heap.size + 1, 6, none⟩) (by simp) _).setCell (p := ⟨w.heap.size + 1, 7, none⟩) (by simp) _)⟩
  have q1 : decide ((L.elems.length : Int) < 1) = false := decide_eq_false (by omega)
  by_cases hn8 : ¬ L.elems.length ≤ 8
  · have HF := Lib.hid (check_many hn8)
    have q2 : decide (8 < (L.elems.length : Int)) = true := decide_eq_true (by omega)
    go_enter Tryd.func30, Tryd.ntmps30
    obtain ⟨y0', y1', y2', y3'⟩ := Box4.of g1
    go_wp2_with fail
    rw [← hC, ← hZ, ← hwb]
    refine (name_any L.name _ hKb).mono ?_
    rintro e w3 ⟨rfl, b3⟩
    rw [HNM.out]
    clear y0' y1' y2' y3'
    have g3 := block_keep g1 b3
    obtain ⟨y0', y1', y2', y3'⟩ := Box4.of g3
    replace hA := hA.keep b3
    replace hZ2 := hZ2.keep b3
    replace b0 := below_trans b0 b3
    obtain ⟨y0, y1, y2, y3, y4, y5, y6, y7, rfl⟩ := eight HI0.out.len
    have r0 := hA.cell (a := 0) rfl
    have r1 := hA.cell (a := 1) rfl
    have r2 := hA.cell (a := 2) rfl
    have r3 := hA.cell (a := 3) rfl
    have r4 := hA.cell (a := 4) rfl
    have r5 := hA.cell (a := 5) rfl
    have r6 := hA.cell (a := 6) rfl
    have r7 := hA.cell (a := 7) rfl
    have z0 := hZ2.cell (a := 0) rfl
    have z1 := hZ2.cell (a := 1) rfl
    have z2 := hZ2.cell (a := 2) rfl
    have z3 := hZ2.cell (a := 3) rfl
    have z4 := hZ2.cell (a := 4) rfl
    have z5 := hZ2.cell (a := 5) rfl
    have z6 := hZ2.cell (a := 6) rfl
    have z7 := hZ2.cell (a := 7) rfl
    have hf := fun a => hZ2.free (a := a)
    go_wp2
    refine bodyPost_ret (v := .tuple #[.agg #[.int .u8 y0, .int .u8 y1, .int .u8 y2, .int .u8 y3, .int .u8 y4, .int .u8 y5, .int .u8 y6, .int .u8 y7], .int .i64 1]) (by simp [results, Tryd.results30, go_sem, z0, z1, z2, z3, z4, z5, z6, z7]) rfl ?_
    exact ⟨[y0, y1, y2, y3, y4, y5, y6, y7], by rw [HF.out]; rfl, rfl, fun h => absurd (HF.out.symm.trans h) (by decide), ((((((((b0.setCell (p := ⟨w.heap.size + 1, 0, none⟩) (by simp) _).setCell (p := ⟨w.heap.size + 1, 1, none⟩) (by simp) _).setCell (p := ⟨w.heap.size + 1, 2, none⟩) (by simp) _).setCell (p := ⟨w.heap.size + 1, 3, none⟩) (by simp) _).setCell (p := ⟨w.heap.size + 1, 4, none⟩) (by simp) _).setCell (p := ⟨w.heap.size + 1, 5, none⟩) (by simp) _).setCell (p := ⟨w.heap.size + 1, 6, none⟩) (by simp) _).setCell (p := ⟨w.heap.size + 1, 7, none⟩) (by simp) _)⟩
  have q2 : decide (8 < (L.elems.length : Int)) = false := decide_eq_false (by omega)
  by_cases hn64 : ¬ L.covers.length ≤ 64
  · have HF := Lib.hid (check_covers hn64)
    have q3 : decide (64 < (L.covers.length : Int)) = true := decide_eq_true (by omega)
    go_enter Tryd.func30, Tryd.ntmps30
    obtain ⟨y0', y1', y2', y3'⟩ := Box4.of g1
    go_wp2_with fail
    rw [← hC, ← hZ, ← hwb]
    refine (name_any L.name _ hKb).mono ?_
    rintro e w3 ⟨rfl, b3⟩
    rw [HNM.out]
    clear y0' y1' y2' y3'
    have g3 := block_keep g1 b3
    obtain ⟨y0', y1', y2', y3'⟩ := Box4.of g3
    replace hA := hA.keep b3
    replace hZ2 := hZ2.keep b3
    replace b0 := below_trans b0 b3
    obtain ⟨y0, y1, y2, y3, y4, y5, y6, y7, rfl⟩ := eight HI0.out.len
    have r0 := hA.cell (a := 0) rfl
    have r1 := hA.cell (a := 1) rfl
    have r2 := hA.cell (a := 2) rfl
    have r3 := hA.cell (a := 3) rfl
    have r4 := hA.cell (a := 4) rfl
    have r5 := hA.cell (a := 5) rfl
    have r6 := hA.cell (a := 6) rfl
    have r7 := hA.cell (a := 7) rfl
    have z0 := hZ2.cell (a := 0) rfl
    have z1 := hZ2.cell (a := 1) rfl
    have z2 := hZ2.cell (a := 2) rfl
    have z3 := hZ2.cell (a := 3) rfl
    have z4 := hZ2.cell (a := 4) rfl
    have z5 := hZ2.cell (a := 5) rfl
    have z6 := hZ2.cell (a := 6) rfl
    have z7 := hZ2.cell (a := 7) rfl
    have hf := fun a => hZ2.free (a := a)
    go_wp2
    refine bodyPost_ret (v := .tuple #[.agg #[.int .u8 y0, .int .u8 y1, .int .u8 y2, .int .u8 y3, .int .u8 y4, .int .u8 y5, .int .u8 y6, .int .u8 y7], .int .i64 1]) (by simp [results, Tryd.results30, go_sem, z0, z1, z2, z3, z4, z5, z6, z7]) rfl ?_
    exact ⟨[y0, y1, y2, y3, y4, y5, y6, y7], by rw [HF.out]; rfl, rfl, fun h => absurd (HF.out.symm.trans h) (by decide), ((((((((b0.setCell (p := ⟨w.heap.size + 1, 0, none⟩) (by simp) _).setCell (p := ⟨w.heap.size + 1, 1, none⟩) (by simp) _).setCell (p := ⟨w.heap.size + 1, 2, none⟩) (by simp) _).setCell (p := ⟨w.heap.size + 1, 3, none⟩) (by simp) _).setCell (p := ⟨w.heap.size + 1, 4, none⟩) (by simp) _).setCell (p := ⟨w.heap.size + 1, 5, none⟩) (by simp) _).setCell (p := ⟨w.heap.size + 1, 6, none⟩) (by simp) _).setCell (p := ⟨w.heap.size + 1, 7, none⟩) (by simp) _)⟩
  have q3 : decide (64 < (L.covers.length : Int)) = false := decide_eq_false (by omega)
  go_enter Tryd.func30, Tryd.ntmps30
  obtain ⟨y0', y1', y2', y3'⟩ := Box4.of g1
  go_wp2_with fail
  rw [← hC, ← hZ, ← hwb]
  clear hC hZ hwb
  refine (name_any L.name _ hKb).mono ?_
  rintro e w3 ⟨rfl, b3⟩
  rw [HNM.out]
  clear y0' y1' y2' y3' hKb
  replace g1 := block_keep g1 b3
  obtain ⟨y0', y1', y2', y3'⟩ := Box4.of g1
  replace hA := hA.keep b3
  replace hZ2 := hZ2.keep b3
  replace b0 := below_trans b0 b3
  have hs3 := b3.size
  replace hsb : w.heap.size + 1 + 1 < w3.heap.size := by omega
  clear b3 hs3
  go_wp2
  clear y0' y1' y2' y3'
  go_loopw [39, 6, 7] (fun i _ _ wr => ∃ (k : Nat) (l : List Int), k ≤ L.elems.length ∧ i = .int .i64 k ∧ OrdAt wr (w.heap.size + 1 + 1) l ∧ Hid (IsOrd l (fun a b => decide (a = b) && decide (a < k))) ∧ Hid (∀ j x, j < k → L.elems[j]? = some x → nameOk x = true) ∧ Below (w.heap.size + 1 + 1) w3 wr) (fun i _ _ _ => L.elems.length - (intOf i).toNat)
  case atStart => exact ⟨0, l0, Nat.zero_le _, rfl, hA, Lib.hid (HI0.out.congr fun a b _ _ => by simp), Lib.hid fun j x hj => by omega, Below.refl _ _⟩
  case round =>
    clear hA HI0
    obtain ⟨k, l, hk, rfl, hA, HI, HNK, bo⟩ := hrel
    obtain ⟨wo, rfl⟩ : ∃ wo : World, wo = wr := ⟨_, rfl⟩
    have g1o := (bo.block w.heap.size (by omega)).trans g1
    have hZo : OrdAt wo (w.heap.size + 1) [0, 0, 0, 0, 0, 0, 0, 0] := (bo.block (w.heap.size + 1) (by omega)).trans hZ2
    have bwo := b0.trans (bo.mono (by omega))
    have hKo := hK.keep (keeps_below bwo)
    have hso := bo.size
    by_cases hlt : k < L.elems.length
    · obtain ⟨b, off, rfl, hcx⟩ := he.at_ (List.getElem?_eq_getElem hlt)
      replace hcx := cell_keep bwo hcx
      have HM := Lib.hid (List.getElem_mem hlt)
      have HG := Lib.hid (List.getElem?_eq_getElem hlt)
      generalize L.elems[k] = x at *
      have hd : decide (k < L.elems.length) = true := decide_eq_true hlt
      have hki : (k : Int) < 8 := by omega
      cases hnx : nameOk x
      · have HX := Lib.hid hnx
        have HF := Lib.hid (check_elem HM.out hnx)
        clear hnx
        go_wp2_with fail
        refine (name_any x _ hKo).mono ?_
        rintro e w5 ⟨rfl, b5⟩
        rw [HX.out]
        replace hA := hA.keep b5
        replace hZo := hZo.keep b5
        replace bwo := below_trans bwo b5
        obtain ⟨y0, y1, y2, y3, y4, y5, y6, y7, rfl⟩ := eight HI.out.len
        have r0 := hA.cell (a := 0) rfl
        have r1 := hA.cell (a := 1) rfl
        have r2 := hA.cell (a := 2) rfl
        have r3 := hA.cell (a := 3) rfl
        have r4 := hA.cell (a := 4) rfl
        have r5 := hA.cell (a := 5) rfl
        have r6 := hA.cell (a := 6) rfl
        have r7 := hA.cell (a := 7) rfl
        have z0 := hZo.cell (a := 0) rfl
        have z1 := hZo.cell (a := 1) rfl
        have z2 := hZo.cell (a := 2) rfl
        have z3 := hZo.cell (a := 3) rfl
        have z4 := hZo.cell (a := 4) rfl
        have z5 := hZo.cell (a := 5) rfl
        have z6 := hZo.cell (a := 6) rfl
        have z7 := hZo.cell (a := 7) rfl
        have hf := fun a => hZo.free (a := a)
        go_wp2
        refine bodyPost_ret (v := .tuple #[.agg #[.int .u8 y0, .int .u8 y1, .int .u8 y2, .int .u8 y3, .int .u8 y4, .int .u8 y5, .int .u8 y6, .int .u8 y7], .int .i64 1]) (by simp [results, Tryd.results30, go_sem, z0, z1, z2, z3, z4, z5, z6, z7]) rfl ?_
        exact ⟨[y0, y1, y2, y3, y4, y5, y6, y7], by rw [HF.out]; rfl, rfl, fun h => absurd (HF.out.symm.trans h) (by decide), ((((((((bwo.setCell (p := ⟨w.heap.size + 1, 0, none⟩) (by simp) _).setCell (p := ⟨w.heap.size + 1, 1, none⟩) (by simp) _).setCell (p := ⟨w.heap.size + 1, 2, none⟩) (by simp) _).setCell (p := ⟨w.heap.size + 1, 3, none⟩) (by simp) _).setCell (p := ⟨w.heap.size + 1, 4, none⟩) (by simp) _).setCell (p := ⟨w.heap.size + 1, 5, none⟩) (by simp) _).setCell (p := ⟨w.heap.size + 1, 6, none⟩) (by simp) _).setCell (p := ⟨w.heap.size + 1, 7, none⟩) (by simp) _)⟩
      · have HX := Lib.hid hnx
        clear hnx
        go_wp2_with fail
        refine (name_any x _ hKo).mono ?_
        rintro e w5 ⟨rfl, b5⟩
        rw [HX.out]
        replace hA := hA.keep b5
        obtain ⟨y0, hy0⟩ : ∃ y0, l[k]? = some y0 := ⟨_, List.getElem?_eq_getElem (by have := HI.out.len; omega)⟩
        have hcy := hA.cell hy0
        have hfy := hA.free (a := k)
        clear hy0
        go_wp2
        go_roundw
        case rel =>
          refine ⟨k + 1, l.set k (2 ^ k % 256), by omega, by go_num, hA.set k _, Lib.hid ((HI.out.set (a := k) (bits_pow (by omega))).congr fun a b _ _ => ?_), Lib.hid fun j y hj hy => ?_, (bo.trans (b5.mono (by omega))).setCell (p := ⟨w.heap.size + 1 + 1, k, none⟩) (by simp) _⟩
          · by_cases e : a = k
            · subst e; rw [if_pos rfl, decide_eq_true (by omega : a < a + 1)]; simp
            · rw [if_neg e]
              by_cases e2 : a < k
              · rw [decide_eq_true e2, decide_eq_true (by omega : a < k + 1)]
              · rw [decide_eq_false e2, decide_eq_false (by omega : ¬ a < k + 1)]
          · rcases Nat.lt_or_ge j k with h | h
            · exact HNK.out j y h hy
            · obtain rfl : j = k := by omega
              rw [HG.out] at hy
              obtain rfl := Option.some.inj hy
              exact HX.out
        case measure => simp [intOf]; omega
    · have e : k = L.elems.length := by omega
      subst e
      have HEL := Lib.hid (show ∀ x ∈ L.elems, nameOk x = true from fun x hx => by
        obtain ⟨j, hj, e⟩ := List.getElem_of_mem hx
        exact HNK.out j x hj (by rw [List.getElem?_eq_getElem hj, e]))
      have HI2 := Lib.hid (HI.out.congr (p := start L.elems.length (L.covers.take 0)) fun a b _ _ => by rw [List.take_zero, start_nil])
      have hd : decide (L.elems.length < L.elems.length) = false := decide_eq_false hlt
      clear HI HNK hlt hk
      obtain ⟨y0', y1', y2', y3'⟩ := Box4.of g1o
      go_wp2
      clear y0' y1' y2' y3'
      go_loopw [56, 9] (fun i _ wr => ∃ (k : Nat) (l : List Int), k ≤ L.covers.length ∧ i = .int .i64 k ∧ OrdAt wr (w.heap.size + 1 + 1) l ∧ Hid (IsOrd l (start L.elems.length (L.covers.take k))) ∧ Hid (∀ j c, j < k → L.covers[j]? = some c → inR L.elems.length c = true) ∧ Below (w.heap.size + 1 + 1) w3 wr) (fun i _ _ => L.covers.length - (intOf i).toNat)
      case atStart => exact ⟨0, l, Nat.zero_le _, rfl, hA, HI2, Lib.hid fun j x hj => by omega, bo⟩
      case round =>
        clear hA HI2 hZo g1o bwo hKo hso bo
        obtain ⟨k, l, hk, rfl, hA, HI, HCK, bo⟩ := hrel
        obtain ⟨wp, rfl⟩ : ∃ wp : World, wp = wr := ⟨_, rfl⟩
        have g1o := (bo.block w.heap.size (by omega)).trans g1
        have hZo : OrdAt wp (w.heap.size + 1) [0, 0, 0, 0, 0, 0, 0, 0] := (bo.block (w.heap.size + 1) (by omega)).trans hZ2
        have bwo := b0.trans (bo.mono (by omega))
        have hso := bo.size
        by_cases hlt : k < L.covers.length
        · obtain ⟨b, off, rfl, hc0, hc1⟩ := hc.at_ (List.getElem?_eq_getElem hlt)
          replace hc0 := cell_keep bwo hc0
          replace hc1 := cell_keep bwo hc1
          have HM := Lib.hid (List.getElem_mem hlt)
          have HG := Lib.hid (List.getElem?_eq_getElem hlt)
          have HT := Lib.hid (List.take_succ_eq_append_getElem hlt)
          generalize L.covers[k] = x at *
          obtain ⟨x1, x2⟩ := x
          dsimp only at hc0 hc1
          have hd : decide (k < L.covers.length) = true := decide_eq_true hlt
          have hkI : (k : Int) < (L.covers.length : Int) := by omega
          have hk0 : (0 : Int) ≤ (k : Int) := by omega
          have gp := heap_alloc_new wp (.cells #[.int .i64 x1, .int .i64 x2] 39)
          have bp := below_new wp (.cells #[.int .i64 x1, .int .i64 x2] 39)
          go_upto_region 15 with fail
          obtain ⟨wq, hwq⟩ : ∃ x : World, x = wp.alloc (.cells #[.int .i64 x1, .int .i64 x2] 39) := ⟨_, rfl⟩
          rw [← hwq] at gp bp ⊢
          clear hwq
          have p0 : wq.cell? ⟨wp.heap.size, 0, none⟩ = some (.int .i64 x1) := cell_at gp rfl
          have p1 : wq.cell? ⟨wp.heap.size, 1, none⟩ = some (.int .i64 x2) := cell_at gp rfl
          replace hA := hA.keep bp
          replace hZo := hZo.keep bp
          replace bwo := below_trans bwo bp
          replace bo := bo.trans (bp.mono (by omega))
          clear gp bp hc0 hc1
          go_cut [74] from 60 to 74 (fun v74 wx => v74 = .bool (!inR L.elems.length (x1, x2)) ∧ wq = wx)
          case first =>
            by_cases hin : 0 ≤ x1 ∧ x1 < L.elems.length ∧ 0 ≤ x2 ∧ x2 < L.elems.length
            · have HV := Lib.hid (show inR L.elems.length (x1, x2) = true from decide_eq_true hin)
              obtain ⟨i1, i2, i3, i4⟩ := hin
              go_wp2
              all_goals
                go_meet
                case rel =>
                  refine ⟨?_, rfl⟩
                  rw [HV.out]
                  congr 1
                  try simp
                  try omega
            · have HV := Lib.hid (show inR L.elems.length (x1, x2) = false from decide_eq_false hin)
              go_wp2
              all_goals
                go_meet
                case rel =>
                  refine ⟨?_, rfl⟩
                  rw [HV.out]
                  congr 1
                  try simp
                  try omega
          case rest =>
            obtain ⟨rfl, rfl⟩ := hcut
            cases hin : inR L.elems.length (x1, x2)
            · have HF := Lib.hid (check_pair HM.out hin)
              clear hin
              obtain ⟨y0, y1, y2, y3, y4, y5, y6, y7, rfl⟩ := eight HI.out.len
              have r0 := hA.cell (a := 0) rfl
              have r1 := hA.cell (a := 1) rfl
              have r2 := hA.cell (a := 2) rfl
              have r3 := hA.cell (a := 3) rfl
              have r4 := hA.cell (a := 4) rfl
              have r5 := hA.cell (a := 5) rfl
              have r6 := hA.cell (a := 6) rfl
              have r7 := hA.cell (a := 7) rfl
              have z0 := hZo.cell (a := 0) rfl
              have z1 := hZo.cell (a := 1) rfl
              have z2 := hZo.cell (a := 2) rfl
              have z3 := hZo.cell (a := 3) rfl
              have z4 := hZo.cell (a := 4) rfl
              have z5 := hZo.cell (a := 5) rfl
              have z6 := hZo.cell (a := 6) rfl
              have z7 := hZo.cell (a := 7) rfl
              have hf := fun a => hZo.free (a := a)
              go_wp2
              refine bodyPost_ret (v := .tuple #[.agg #[.int .u8 y0, .int .u8 y1, .int .u8 y2, .int .u8 y3, .int .u8 y4, .int .u8 y5, .int .u8 y6, .int .u8 y7], .int .i64 1]) (by simp [results, Tryd.results30, go_sem, z0, z1, z2, z3, z4, z5, z6, z7]) rfl ?_
              exact ⟨[y0, y1, y2, y3, y4, y5, y6, y7], by rw [HF.out]; rfl, rfl, fun h => absurd (HF.out.symm.trans h) (by decide), ((((((((bwo.setCell (p := ⟨w.heap.size + 1, 0, none⟩) (by simp) _).setCell (p := ⟨w.heap.size + 1, 1, none⟩) (by simp) _).setCell (p := ⟨w.heap.size + 1, 2, none⟩) (by simp) _).setCell (p := ⟨w.heap.size + 1, 3, none⟩) (by simp) _).setCell (p := ⟨w.heap.size + 1, 4, none⟩) (by simp) _).setCell (p := ⟨w.heap.size + 1, 5, none⟩) (by simp) _).setCell (p := ⟨w.heap.size + 1, 6, none⟩) (by simp) _).setCell (p := ⟨w.heap.size + 1, 7, none⟩) (by simp) _)⟩
            · have HIN := Lib.hid hin
              obtain ⟨i1, i2, i3, i4⟩ := of_decide_eq_true hin
              dsimp only at i1 i2 i3 i4
              clear hin
              obtain ⟨a, rfl⟩ := Int.eq_ofNat_of_zero_le i1
              obtain ⟨b', rfl⟩ := Int.eq_ofNat_of_zero_le i3
              obtain ⟨y0, hy0⟩ : ∃ y0, l[a]? = some y0 := ⟨_, List.getElem?_eq_getElem (by have := HI.out.len; omega)⟩
              have hy := HI.out.row a y0 hy0
              have hcy := hA.cell hy0
              have hfy := hA.free (a := a)
              have HY := Lib.hid hy
              have ha8 : (a : Int) < 8 := by omega
              have hb8 : (b' : Int) < 8 := by omega
              clear hy hy0
              go_wp2
              refine wp_region_noPanic ?_
              refine wp_region_late (fun w' => w'.cell? ⟨wp.heap.size, 0, none⟩ = some (.int .i64 a) ∧ w'.cell? ⟨wp.heap.size, 1, none⟩ = some (.int .i64 b') ∧ w'.cell? ⟨w.heap.size + 1 + 1, a, none⟩ = some (.int .u8 y0)) 9 (by kernel_rfl) (⟨p0, p1, hcy⟩) (fun hHeld => ?_)
              refine any_take (by kernel_rfl) (i := 0) (oi := _) (v := ?_) rfl rfl (by kernel_rfl) (by kernel_rfl) (by kernel_rfl) (fun _ _ _ h => h) (Or.inl ⟨by rfl, ?_⟩) hHeld ?_
              rotate_left
              · intro w' hSw; try dsimp only at hSw
                go_simp
                try with_reducible rfl
              try simp only [puts, gets]
              refine any_take (by kernel_rfl) (i := 1) (oi := _) (v := ?_) rfl rfl (by kernel_rfl) (by kernel_rfl) (by kernel_rfl) (fun _ _ _ h => h) (Or.inl ⟨by rfl, ?_⟩) hHeld ?_
              rotate_left
              · intro w' hSw; try dsimp only at hSw
                go_simp
                try with_reducible rfl
              try simp only [puts, gets]
              refine any_take (by kernel_rfl) (i := 2) (oi := _) (v := ?_) rfl rfl (by kernel_rfl) (by kernel_rfl) (by kernel_rfl) (fun _ _ _ h => h) (Or.inl ⟨by rfl, ?_⟩) hHeld ?_
              rotate_left
              · intro w' hSw; try dsimp only at hSw
                go_simp
                try with_reducible rfl
              try simp only [puts, gets]
              refine any_take (by kernel_rfl) (i := 3) (oi := _) (v := ?_) rfl rfl (by kernel_rfl) (by kernel_rfl) (by kernel_rfl) (fun _ _ _ h => h) (Or.inl ⟨by rfl, ?_⟩) hHeld ?_
              rotate_left
              · intro w' hSw; try dsimp only at hSw
                go_simp
                try with_reducible rfl
              try simp only [puts, gets]
              refine any_take (by kernel_rfl) (i := 4) (oi := _) (v := ?_) rfl rfl (by kernel_rfl) (by kernel_rfl) (by kernel_rfl) (fun _ _ _ h => h) (Or.inl ⟨by rfl, ?_⟩) hHeld ?_
              rotate_left
              · intro w' hSw; try dsimp only at hSw
                go_simp
                try with_reducible rfl
              try simp only [puts, gets]
              refine any_take (by kernel_rfl) (i := 5) (oi := _) (v := ?_) rfl rfl (by kernel_rfl) (by kernel_rfl) (by kernel_rfl) (fun _ _ _ h => h) (Or.inl ⟨by rfl, ?_⟩) hHeld ?_
              rotate_left
              · intro w' hSw; try dsimp only at hSw
                go_simp
                try with_reducible rfl
              try simp only [puts, gets]
              refine any_take (by kernel_rfl) (i := 6) (oi := _) (v := ?_) rfl rfl (by kernel_rfl) (by kernel_rfl) (by kernel_rfl) (fun _ _ _ h => h) (Or.inl ⟨by rfl, ?_⟩) hHeld ?_
              rotate_left
              · intro w' hSw; try dsimp only at hSw
                go_simp
                try with_reducible rfl
              try simp only [puts, gets]
              refine any_take (by kernel_rfl) (i := 7) (oi := _) (v := ?_) rfl rfl (by kernel_rfl) (by kernel_rfl) (by kernel_rfl) (fun _ _ _ h => h) (Or.inl ⟨by rfl, ?_⟩) hHeld ?_
              rotate_left
              · intro w' hSw; try dsimp only at hSw
                go_simp
                try with_reducible rfl
              try simp only [puts, gets]
              refine any_take (by kernel_rfl) (i := 8) (oi := _) (v := ?_) rfl rfl (by kernel_rfl) (by kernel_rfl) (by kernel_rfl) (fun _ _ _ h => h) (Or.inl ⟨by rfl, ?_⟩) hHeld ?_
              rotate_left
              · intro w' hSw; try dsimp only at hSw
                go_simp
                try with_reducible rfl
              try simp only [puts, gets]
              refine any_late (i := 9) (by kernel_rfl) rfl rfl (fun K hK => ?_)
              go_simp
              refine hK.out _ _ ?_
              clear hK K
              try simp only [puts, gets]
              refine any_done (by kernel_rfl) ?_ _
              refine NoPanic.normal ?_
              go_wp2
              go_roundw
              case rel =>
                refine ⟨k + 1, l.set a (bits .or .u8 y0 (2 ^ b' % 256)), by omega, by go_num, hA.set a _, Lib.hid ((HI.out.set (a := a) (HY.out.or (bits_pow (by omega)))).congr fun i b _ _ => ?_), Lib.hid fun j y hj hy => ?_, below_drew' (bo.setCell (p := ⟨w.heap.size + 1 + 1, a, none⟩) (by simp) _)⟩
                · rw [HT.out, start_snoc]
                  by_cases e : i = a
                  · subst e; simp
                  · simp [e]
                · rcases Nat.lt_or_ge j k with h | h
                  · exact HCK.out j y h hy
                  · obtain rfl : j = k := by omega
                    rw [HG.out] at hy
                    obtain rfl := Option.some.inj hy
                    exact HIN.out
              case measure => simp [intOf]; omega
        · have e : k = L.covers.length := by omega
          subst e
          have HCL := Lib.hid (show ∀ c ∈ L.covers, inR L.elems.length c = true from fun x hx => by
            obtain ⟨j, hj, e⟩ := List.getElem_of_mem hx
            exact HCK.out j x hj (by rw [List.getElem?_eq_getElem hj, e]))
          rw [List.take_length] at HI
          have hd : decide (L.covers.length < L.covers.length) = false := decide_eq_false hlt
          clear HCK hlt hk
          obtain ⟨y0', y1', y2', y3'⟩ := Box4.of g1o
          go_wp2
          clear y0' y1' y2' y3'
          have HAR := Lib.hid (args_ok HNM.out (by omega) (by omega) (by omega) HEL.out HCL.out)
          have hsl := bo.size
          go_loop [89, 10, 11] (fun i _ _ => ∃ k : Nat, k ≤ L.elems.length ∧ i = .int .i64 k ∧ Hid (∀ j x, j < k → L.elems[j]? = some x → x ∉ L.elems.take j)) (fun i _ _ => L.elems.length - (intOf i).toNat)
          case atStart => exact ⟨0, Nat.zero_le _, rfl, Lib.hid fun j x hj => by omega⟩
          case round =>
            obtain ⟨k, hk, rfl, HD⟩ := hrel
            by_cases hlt : k < L.elems.length
            · have hel := he.keep (keeps_below bwo)
              have htk := hel.take (k := k) (by omega)
              obtain ⟨b, off, rfl, hcx⟩ := hel.at_ (List.getElem?_eq_getElem hlt)
              have HG := Lib.hid (List.getElem?_eq_getElem hlt)
              generalize L.elems[k] = x at *
              have hd : decide (k < L.elems.length) = true := decide_eq_true hlt
              have hkI : (k : Int) < (L.elems.length : Int) := by omega
              have hkE : k ≤ ec := by omega
              have hk0 : (0 : Int) ≤ (k : Int) := by omega
              obtain ⟨y0', y1', y2', y3'⟩ := Box4.of g1o
              by_cases hxt : x ∈ L.elems.take k
              · have HF := Lib.hid (check_twice HAR.out (dup_yes HG.out hxt))
                have HX := Lib.hid (decide_eq_true hxt)
                clear hxt
                go_wp2_with fail
                refine (Contains_any _ (L.elems.take k) x _ htk).mono ?_
                rintro e w5 ⟨rfl, rfl⟩
                rw [HX.out]
                obtain ⟨y0, y1, y2, y3, y4, y5, y6, y7, rfl⟩ := eight HI.out.len
                have r0 := hA.cell (a := 0) rfl
                have r1 := hA.cell (a := 1) rfl
                have r2 := hA.cell (a := 2) rfl
                have r3 := hA.cell (a := 3) rfl
                have r4 := hA.cell (a := 4) rfl
                have r5 := hA.cell (a := 5) rfl
                have r6 := hA.cell (a := 6) rfl
                have r7 := hA.cell (a := 7) rfl
                have z0 := hZo.cell (a := 0) rfl
                have z1 := hZo.cell (a := 1) rfl
                have z2 := hZo.cell (a := 2) rfl
                have z3 := hZo.cell (a := 3) rfl
                have z4 := hZo.cell (a := 4) rfl
                have z5 := hZo.cell (a := 5) rfl
                have z6 := hZo.cell (a := 6) rfl
                have z7 := hZo.cell (a := 7) rfl
                have hf := fun a => hZo.free (a := a)
                go_wp2
                refine bodyPost_ret (v := .tuple #[.agg #[.int .u8 y0, .int .u8 y1, .int .u8 y2, .int .u8 y3, .int .u8 y4, .int .u8 y5, .int .u8 y6, .int .u8 y7], .int .i64 5]) (by simp [results, Tryd.results30, go_sem, z0, z1, z2, z3, z4, z5, z6, z7]) rfl ?_
                exact ⟨[y0, y1, y2, y3, y4, y5, y6, y7], by rw [HF.out]; rfl, rfl, fun h => absurd (HF.out.symm.trans h) (by decide), ((((((((bwo.setCell (p := ⟨w.heap.size + 1, 0, none⟩) (by simp) _).setCell (p := ⟨w.heap.size + 1, 1, none⟩) (by simp) _).setCell (p := ⟨w.heap.size + 1, 2, none⟩) (by simp) _).setCell (p := ⟨w.heap.size + 1, 3, none⟩) (by simp) _).setCell (p := ⟨w.heap.size + 1, 4, none⟩) (by simp) _).setCell (p := ⟨w.heap.size + 1, 5, none⟩) (by simp) _).setCell (p := ⟨w.heap.size + 1, 6, none⟩) (by simp) _).setCell (p := ⟨w.heap.size + 1, 7, none⟩) (by simp) _)⟩
              · have HX := Lib.hid (decide_eq_false hxt)
                have HN := Lib.hid (show ∀ j y, j < k + 1 → L.elems[j]? = some y → y ∉ L.elems.take j from fun j y hj hy => by
                  rcases Nat.lt_or_ge j k with h | h
                  · exact HD.out j y h hy
                  · obtain rfl : j = k := by omega
                    rw [HG.out] at hy
                    obtain rfl := Option.some.inj hy
                    exact hxt)
                clear hxt
                go_wp2_with fail
                refine (Contains_any _ (L.elems.take k) x _ htk).mono ?_
                rintro e w5 ⟨rfl, rfl⟩
                rw [HX.out]
                go_wp2
                go_round
                case rel => exact ⟨k + 1, by omega, by go_num, HN⟩
                case measure => simp [intOf]; omega
            · have e : k = L.elems.length := by omega
              subst e
              have HDN := Lib.hid (dup_no (l := L.elems) fun a x hx => HD.out a x (List.getElem?_eq_some_iff.1 hx).1 hx)
              have hd : decide (L.elems.length < L.elems.length) = false := decide_eq_false hlt
              clear HD hlt hk
              rename_i hk1 hk2 hk3 hk4 hk5 hk6 hk7
              obtain ⟨y0, y1, y2, y3, y4, y5, y6, y7, rfl⟩ := eight HI.out.len
              have r0 := hA.cell (a := 0) rfl
              have r1 := hA.cell (a := 1) rfl
              have r2 := hA.cell (a := 2) rfl
              have r3 := hA.cell (a := 3) rfl
              have r4 := hA.cell (a := 4) rfl
              have r5 := hA.cell (a := 5) rfl
              have r6 := hA.cell (a := 6) rfl
              have r7 := hA.cell (a := 7) rfl
              have HRG := Lib.hid (inR_range HCL.out)
              go_wp2_with fail
              refine (closed_x HI.out (fun a b h => start_lt HRG.out h) (by omega)).mono ?_
              rintro e w5 ⟨q0, q1, q2, q3, q4, q5, q6, q7, rfl, hq, b5⟩
              have HQ : Hid (IsOrd [q0, q1, q2, q3, q4, q5, q6, q7] (ordL L)) := Lib.hid hq
              clear hq r0 r1 r2 r3 r4 r5 r6 r7
              replace hA := hA.keep b5
              replace hZo := hZo.keep b5
              replace g1o := block_keep g1o b5
              replace bwo := below_trans bwo b5
              clear bo b5 HI
              have r0 := hA.cell (a := 0) rfl
              have r1 := hA.cell (a := 1) rfl
              have r2 := hA.cell (a := 2) rfl
              have r3 := hA.cell (a := 3) rfl
              have r4 := hA.cell (a := 4) rfl
              have r5 := hA.cell (a := 5) rfl
              have r6 := hA.cell (a := 6) rfl
              have r7 := hA.cell (a := 7) rfl
              have hf := fun a => hA.free (a := a)
              go_upto_region 26 with fail
              obtain ⟨w6, hw6⟩ : ∃ x : World, x = ((((((((w5.setCell ⟨w.heap.size + 1 + 1, 0, none⟩ (.int .u8 q0)).setCell ⟨w.heap.size + 1 + 1, 1, none⟩ (.int .u8 q1)).setCell ⟨w.heap.size + 1 + 1, 2, none⟩ (.int .u8 q2)).setCell ⟨w.heap.size + 1 + 1, 3, none⟩ (.int .u8 q3)).setCell ⟨w.heap.size + 1 + 1, 4, none⟩ (.int .u8 q4)).setCell ⟨w.heap.size + 1 + 1, 5, none⟩ (.int .u8 q5)).setCell ⟨w.heap.size + 1 + 1, 6, none⟩ (.int .u8 q6)).setCell ⟨w.heap.size + 1 + 1, 7, none⟩ (.int .u8 q7)) := ⟨_, rfl⟩
              replace hA := hA.set8 q0 q1 q2 q3 q4 q5 q6 q7
              have hZ6 := below_set8 (B := w.heap.size + 1 + 1) (β := w.heap.size + 1 + 1) (.int .u8 q0) (.int .u8 q1) (.int .u8 q2) (.int .u8 q3) (.int .u8 q4) (.int .u8 q5) (.int .u8 q6) (.int .u8 q7) (Below.refl (w.heap.size + 1 + 1) w5) (Nat.le_refl _)
              rw [← hw6] at hA hZ6 ⊢
              clear hw6 r0 r1 r2 r3 r4 r5 r6 r7 hf
              replace hZo : OrdAt w6 (w.heap.size + 1) [0, 0, 0, 0, 0, 0, 0, 0] := (hZ6.block (w.heap.size + 1) (by omega)).trans hZo
              replace g1o := (hZ6.block w.heap.size (by omega)).trans g1o
              replace bwo := bwo.trans (hZ6.mono (by omega))
              clear hZ6
              have HALL : ∀ W, Below w6.heap.size w6 W → (W.cell? ⟨w.heap.size + 1 + 1, 0, none⟩ = some (.int .u8 q0) ∧ W.cell? ⟨w.heap.size + 1 + 1, 1, none⟩ = some (.int .u8 q1) ∧ W.cell? ⟨w.heap.size + 1 + 1, 2, none⟩ = some (.int .u8 q2) ∧ W.cell? ⟨w.heap.size + 1 + 1, 3, none⟩ = some (.int .u8 q3) ∧ W.cell? ⟨w.heap.size + 1 + 1, 4, none⟩ = some (.int .u8 q4) ∧ W.cell? ⟨w.heap.size + 1 + 1, 5, none⟩ = some (.int .u8 q5) ∧ W.cell? ⟨w.heap.size + 1 + 1, 6, none⟩ = some (.int .u8 q6) ∧ W.cell? ⟨w.heap.size + 1 + 1, 7, none⟩ = some (.int .u8 q7)) := fun W hW => ⟨(hA.keep hW).cell (a := 0) rfl, (hA.keep hW).cell (a := 1) rfl, (hA.keep hW).cell (a := 2) rfl, (hA.keep hW).cell (a := 3) rfl, (hA.keep hW).cell (a := 4) rfl, (hA.keep hW).cell (a := 5) rfl, (hA.keep hW).cell (a := 6) rfl, (hA.keep hW).cell (a := 7) rfl⟩
              obtain ⟨m, HM⟩ : ∃ m, Hid (leastOf L.elems.length (ordL L) (fun b => decide (b < L.elems.length)) = m) := ⟨_, Lib.hid rfl⟩
              have HBF := Lib.hid (bits_full (n := L.elems.length) (by omega))
              by_cases hm : m < 0
              · have HF := Lib.hid (check_order HAR.out HDN.out (good_least (by rw [HM.out]; exact hm)))
                have hmd : decide (m < 0) = true := decide_eq_true hm
                refine wp_region_noPanic ?_
                refine wp_region_late (fun W => W.cell? ⟨w.heap.size + 1 + 1, 0, none⟩ = some (.int .u8 q0) ∧ W.cell? ⟨w.heap.size + 1 + 1, 1, none⟩ = some (.int .u8 q1) ∧ W.cell? ⟨w.heap.size + 1 + 1, 2, none⟩ = some (.int .u8 q2) ∧ W.cell? ⟨w.heap.size + 1 + 1, 3, none⟩ = some (.int .u8 q3) ∧ W.cell? ⟨w.heap.size + 1 + 1, 4, none⟩ = some (.int .u8 q4) ∧ W.cell? ⟨w.heap.size + 1 + 1, 5, none⟩ = some (.int .u8 q5) ∧ W.cell? ⟨w.heap.size + 1 + 1, 6, none⟩ = some (.int .u8 q6) ∧ W.cell? ⟨w.heap.size + 1 + 1, 7, none⟩ = some (.int .u8 q7)) 7 (by kernel_rfl) (HALL _ (below_drew' (Below.refl _ _))) (fun hHeld => ?_)
                refine any_take (by kernel_rfl) (i := 0) (oi := _) (v := ?_) rfl rfl (by kernel_rfl) (by kernel_rfl) (by kernel_rfl) (fun _ _ _ h => h) (Or.inl ⟨by rfl, ?_⟩) hHeld ?_
                rotate_left
                · intro w' hSw; try dsimp only at hSw
                  go_simp
                  try with_reducible rfl
                try simp only [puts, gets]
                refine any_take (by kernel_rfl) (i := 1) (oi := _) (v := ?_) rfl rfl (by kernel_rfl) (by kernel_rfl) (by kernel_rfl) (fun _ _ _ h => h) (Or.inl ⟨by rfl, ?_⟩) hHeld ?_
                rotate_left
                · intro w' hSw; try dsimp only at hSw
                  go_simp
                  try with_reducible rfl
                try simp only [puts, gets]
                refine any_take (by kernel_rfl) (i := 2) (oi := _) (v := ?_) rfl rfl (by kernel_rfl) (by kernel_rfl) (by kernel_rfl) (fun _ _ _ h => h) (Or.inl ⟨by rfl, ?_⟩) hHeld ?_
                rotate_left
                · intro w' hSw; try dsimp only at hSw
                  go_simp
                  try with_reducible rfl
                try simp only [puts, gets]
                refine any_take (by kernel_rfl) (i := 3) (oi := _) (v := ?_) rfl rfl (by kernel_rfl) (by kernel_rfl) (by kernel_rfl) (fun _ _ _ h => h) (Or.inl ⟨by rfl, ?_⟩) hHeld ?_
                rotate_left
                · intro w' hSw; try dsimp only at hSw
                  go_simp
                  try with_reducible rfl
                try simp only [puts, gets]
                refine any_take (by kernel_rfl) (i := 4) (oi := _) (v := ?_) rfl rfl (by kernel_rfl) (by kernel_rfl) (by kernel_rfl) (fun _ _ _ h => h) (Or.inl ⟨by rfl, ?_⟩) hHeld ?_
                rotate_left
                · intro w' hSw; try dsimp only at hSw
                  go_simp
                  try with_reducible rfl
                try simp only [puts, gets]
                refine any_next (i := 5) (by kernel_rfl) rfl rfl (fun K hK => ?_)
                go_simp
                go_at_call 38
                refine least_ts HQ HBF.out (fun b _ h => of_decide_eq_true h) (by omega) HM ?_
                intro w7 b7
                replace b7 : Below w6.heap.size w6 w7 := below_undrew b7
                refine hK.out _ _ ?_ (fun hHeld => ?_)
                · exact HALL _ b7
                clear hK K
                try simp only [puts, gets]
                refine any_take (by kernel_rfl) (i := 6) (oi := _) (v := ?_) rfl rfl (by kernel_rfl) (by kernel_rfl) (by kernel_rfl) (fun _ _ _ h => h) (Or.inl ⟨by rfl, ?_⟩) hHeld ?_
                rotate_left
                · intro w' hSw; try dsimp only at hSw
                  go_simp
                  try with_reducible rfl
                try simp only [puts, gets]
                refine any_done (by kernel_rfl) ?_ _
                refine NoPanic.normal ?_
                replace hA := hA.keep b7
                replace hZo := hZo.keep b7
                replace bwo := below_trans bwo b7
                clear HALL
                have r0 := hA.cell (a := 0) rfl
                have r1 := hA.cell (a := 1) rfl
                have r2 := hA.cell (a := 2) rfl
                have r3 := hA.cell (a := 3) rfl
                have r4 := hA.cell (a := 4) rfl
                have r5 := hA.cell (a := 5) rfl
                have r6 := hA.cell (a := 6) rfl
                have r7 := hA.cell (a := 7) rfl
                have z0 := hZo.cell (a := 0) rfl
                have z1 := hZo.cell (a := 1) rfl
                have z2 := hZo.cell (a := 2) rfl
                have z3 := hZo.cell (a := 3) rfl
                have z4 := hZo.cell (a := 4) rfl
                have z5 := hZo.cell (a := 5) rfl
                have z6 := hZo.cell (a := 6) rfl
                have z7 := hZo.cell (a := 7) rfl
                have hf := fun a => hZo.free (a := a)
                go_wp2
                refine bodyPost_ret (v := .tuple #[.agg #[.int .u8 q0, .int .u8 q1, .int .u8 q2, .int .u8 q3, .int .u8 q4, .int .u8 q5, .int .u8 q6, .int .u8 q7], .int .i64 30]) (by simp [results, Tryd.results30, go_sem, z0, z1, z2, z3, z4, z5, z6, z7]) rfl ?_
                exact ⟨[q0, q1, q2, q3, q4, q5, q6, q7], by rw [HF.out]; rfl, rfl, fun h => absurd (HF.out.symm.trans h) (by decide), ((((((((bwo.setCell (p := ⟨w.heap.size + 1, 0, none⟩) (by simp) _).setCell (p := ⟨w.heap.size + 1, 1, none⟩) (by simp) _).setCell (p := ⟨w.heap.size + 1, 2, none⟩) (by simp) _).setCell (p := ⟨w.heap.size + 1, 3, none⟩) (by simp) _).setCell (p := ⟨w.heap.size + 1, 4, none⟩) (by simp) _).setCell (p := ⟨w.heap.size + 1, 5, none⟩) (by simp) _).setCell (p := ⟨w.heap.size + 1, 6, none⟩) (by simp) _).setCell (p := ⟨w.heap.size + 1, 7, none⟩) (by simp) _)⟩
              · have hmd : decide (m < 0) = false := decide_eq_false hm
                refine wp_region_noPanic ?_
                refine wp_region_late (fun W => W.cell? ⟨w.heap.size + 1 + 1, 0, none⟩ = some (.int .u8 q0) ∧ W.cell? ⟨w.heap.size + 1 + 1, 1, none⟩ = some (.int .u8 q1) ∧ W.cell? ⟨w.heap.size + 1 + 1, 2, none⟩ = some (.int .u8 q2) ∧ W.cell? ⟨w.heap.size + 1 + 1, 3, none⟩ = some (.int .u8 q3) ∧ W.cell? ⟨w.heap.size + 1 + 1, 4, none⟩ = some (.int .u8 q4) ∧ W.cell? ⟨w.heap.size + 1 + 1, 5, none⟩ = some (.int .u8 q5) ∧ W.cell? ⟨w.heap.size + 1 + 1, 6, none⟩ = some (.int .u8 q6) ∧ W.cell? ⟨w.heap.size + 1 + 1, 7, none⟩ = some (.int .u8 q7)) 7 (by kernel_rfl) (HALL _ (below_drew' (Below.refl _ _))) (fun hHeld => ?_)
                refine any_take (by kernel_rfl) (i := 0) (oi := _) (v := ?_) rfl rfl (by kernel_rfl) (by kernel_rfl) (by kernel_rfl) (fun _ _ _ h => h) (Or.inl ⟨by rfl, ?_⟩) hHeld ?_
                rotate_left
                · intro w' hSw; try dsimp only at hSw
                  go_simp
                  try with_reducible rfl
                try simp only [puts, gets]
                refine any_take (by kernel_rfl) (i := 1) (oi := _) (v := ?_) rfl rfl (by kernel_rfl) (by kernel_rfl) (by kernel_rfl) (fun _ _ _ h => h) (Or.inl ⟨by rfl, ?_⟩) hHeld ?_
                rotate_left
                · intro w' hSw; try dsimp only at hSw
                  go_simp
                  try with_reducible rfl
                try simp only [puts, gets]
                refine any_take (by kernel_rfl) (i := 2) (oi := _) (v := ?_) rfl rfl (by kernel_rfl) (by kernel_rfl) (by kernel_rfl) (fun _ _ _ h => h) (Or.inl ⟨by rfl, ?_⟩) hHeld ?_
                rotate_left
                · intro w' hSw; try dsimp only at hSw
                  go_simp
                  try with_reducible rfl
                try simp only [puts, gets]
                refine any_take (by kernel_rfl) (i := 3) (oi := _) (v := ?_) rfl rfl (by kernel_rfl) (by kernel_rfl) (by kernel_rfl) (fun _ _ _ h => h) (Or.inl ⟨by rfl, ?_⟩) hHeld ?_
                rotate_left
                · intro w' hSw; try dsimp only at hSw
                  go_simp
                  try with_reducible rfl
                try simp only [puts, gets]
                refine any_take (by kernel_rfl) (i := 4) (oi := _) (v := ?_) rfl rfl (by kernel_rfl) (by kernel_rfl) (by kernel_rfl) (fun _ _ _ h => h) (Or.inl ⟨by rfl, ?_⟩) hHeld ?_
                rotate_left
                · intro w' hSw; try dsimp only at hSw
                  go_simp
                  try with_reducible rfl
                try simp only [puts, gets]
                refine any_next (i := 5) (by kernel_rfl) rfl rfl (fun K hK => ?_)
                go_simp
                go_at_call 38
                refine least_ts HQ HBF.out (fun b _ h => of_decide_eq_true h) (by omega) HM ?_
                intro w7 b7
                replace b7 : Below w6.heap.size w6 w7 := below_undrew b7
                refine hK.out _ _ ?_ (fun hHeld => ?_)
                · exact HALL _ b7
                clear hK K
                try simp only [puts, gets]
                refine any_take (by kernel_rfl) (i := 6) (oi := _) (v := ?_) rfl rfl (by kernel_rfl) (by kernel_rfl) (by kernel_rfl) (fun _ _ _ h => h) (Or.inl ⟨by rfl, ?_⟩) hHeld ?_
                rotate_left
                · intro w' hSw; try dsimp only at hSw
                  go_simp
                  try with_reducible rfl
                try simp only [puts, gets]
                refine any_done (by kernel_rfl) ?_ _
                refine NoPanic.normal ?_
                replace hA := hA.keep b7
                replace hZo := hZo.keep b7
                replace bwo := below_trans bwo b7
                have HM0 := Lib.hid hm
                clear HALL hm hmd HBF hsl g1o b7 hZ2 b0 g1 hd
                go_wp2
                go_loopw [114, 12] (fun i _ wr => ∃ a : Nat, a ≤ L.elems.length ∧ i = .int .i64 a ∧ Hid (∀ i, i < a → ∀ j, j < L.elems.length → okp L.elems.length (ordL L) i j = true) ∧ Below w7.heap.size w7 wr) (fun i _ _ => L.elems.length - (intOf i).toNat)
                case atStart => exact ⟨0, Nat.zero_le _, rfl, Lib.hid fun i hi => by omega, Below.refl _ _⟩
                case round =>
                  obtain ⟨a, ha, rfl, HOA, bA⟩ := hrel
                  obtain ⟨w8, rfl⟩ : ∃ w8 : World, w8 = wr := ⟨_, rfl⟩
                  by_cases hlt : a < L.elems.length
                  · have hd1 : decide (a < L.elems.length) = true := decide_eq_true hlt
                    go_wp2
                    go_loopw [118, 13] (fun i _ wr => ∃ b : Nat, b ≤ L.elems.length ∧ i = .int .i64 b ∧ Hid (∀ j, j < b → okp L.elems.length (ordL L) a j = true) ∧ Below w7.heap.size w7 wr) (fun i _ _ => L.elems.length - (intOf i).toNat)
                    case atStart => exact ⟨0, Nat.zero_le _, rfl, Lib.hid fun j hj => by omega, bA⟩
                    case round =>
                      obtain ⟨b, hb, rfl, HOB, bB⟩ := hrel
                      obtain ⟨w9, rfl⟩ : ∃ w9 : World, w9 = wr := ⟨_, rfl⟩
                      replace hA := hA.keep bB
                      replace hZo := hZo.keep bB
                      replace bwo := below_trans bwo bB
                      clear bA
                      by_cases hltb : b < L.elems.length
                      · have hd2 : decide (b < L.elems.length) = true := decide_eq_true hltb
                        obtain ⟨xa, hxa⟩ : ∃ xa, [q0, q1, q2, q3, q4, q5, q6, q7][a]? = some xa := ⟨_, List.getElem?_eq_getElem (by simp; omega)⟩
                        obtain ⟨xb, hxb⟩ : ∃ xb, [q0, q1, q2, q3, q4, q5, q6, q7][b]? = some xb := ⟨_, List.getElem?_eq_getElem (by simp; omega)⟩
                        have ha8 : (a : Int) < 8 := by omega
                        have hb8 : (b : Int) < 8 := by omega
                        go_upto_region 34 with fail
                        go_cut [154] from 121 to 154 (fun v154 wx => v154 = .bool (!okp L.elems.length (ordL L) a b) ∧ Below w9.heap.size w9 wx)
                        case first =>
                          have hIA := HQ.out.row a xa hxa
                          have hIB := HQ.out.row b xb hxb
                          have HAB := Lib.hid (hIA.and hIB)
                          have HSC := Lib.hid (show ∀ c, c < 8 → (ordL L a c && ordL L b c) = true → c < L.elems.length from fun c _ h => by rw [Bool.and_eq_true] at h; exact (clo_lt HRG.out h.1).2)
                          have HALL2 : ∀ W, Below w9.heap.size w9 W → (W.cell? ⟨w.heap.size + 1 + 1, 0, none⟩ = some (.int .u8 q0) ∧ W.cell? ⟨w.heap.size + 1 + 1, 1, none⟩ = some (.int .u8 q1) ∧ W.cell? ⟨w.heap.size + 1 + 1, 2, none⟩ = some (.int .u8 q2) ∧ W.cell? ⟨w.heap.size + 1 + 1, 3, none⟩ = some (.int .u8 q3) ∧ W.cell? ⟨w.heap.size + 1 + 1, 4, none⟩ = some (.int .u8 q4) ∧ W.cell? ⟨w.heap.size + 1 + 1, 5, none⟩ = some (.int .u8 q5) ∧ W.cell? ⟨w.heap.size + 1 + 1, 6, none⟩ = some (.int .u8 q6) ∧ W.cell? ⟨w.heap.size + 1 + 1, 7, none⟩ = some (.int .u8 q7) ∧ W.cell? ⟨w.heap.size + 1 + 1, a, none⟩ = some (.int .u8 xa) ∧ W.cell? ⟨w.heap.size + 1 + 1, b, none⟩ = some (.int .u8 xb)) := fun W hW => ⟨(hA.keep hW).cell (a := 0) rfl, (hA.keep hW).cell (a := 1) rfl, (hA.keep hW).cell (a := 2) rfl, (hA.keep hW).cell (a := 3) rfl, (hA.keep hW).cell (a := 4) rfl, (hA.keep hW).cell (a := 5) rfl, (hA.keep hW).cell (a := 6) rfl, (hA.keep hW).cell (a := 7) rfl, (hA.keep hW).cell hxa, (hA.keep hW).cell hxb⟩
                          have hta := hIA.test (b := b) (by omega)
                          have htb := hIB.test (b := a) (by omega)
                          have hxa0 := hIA.1
                          have hxa1 := hIA.2.1
                          have hxb0 := hIB.1
                          have hxb1 := hIB.2.1
                          have hnI : L.elems.length ≤ 8 := by omega
                          have HXA := Lib.hid hxa
                          have HXB := Lib.hid hxb
                          clear hxa hxb hIA hIB hZo bwo hA HOA HOB bB
                          by_cases hab : a = b
                          · subst hab
                            obtain rfl : xa = xb := Option.some.inj (HXA.out.symm.trans HXB.out)
                            have hne : ((a : Int) != (a : Int)) = false := by simp
                            clear hta htb
                            obtain ⟨m2, HM2⟩ : ∃ m2, Hid (leastOf L.elems.length (ordL L) (fun c => ordL L a c && ordL L a c) = m2) := ⟨_, Lib.hid rfl⟩
                            have HV := Lib.hid (show okp L.elems.length (ordL L) a a = !decide (m2 < 0) by
                              unfold okp
                              have e : decide ((0 : Int) ≤ m2) = !decide (m2 < 0) := by rw [← decide_not, decide_eq_decide]; omega
                              rw [HM2.out, e]
                              simp)
                            obtain ⟨tt, htt⟩ : ∃ tt, decide (m2 < 0) = tt := ⟨_, rfl⟩
                            rw [htt] at HV
                            refine wp_region_noPanic ?_
                            refine wp_region_late (fun W => W.cell? ⟨w.heap.size + 1 + 1, 0, none⟩ = some (.int .u8 q0) ∧ W.cell? ⟨w.heap.size + 1 + 1, 1, none⟩ = some (.int .u8 q1) ∧ W.cell? ⟨w.heap.size + 1 + 1, 2, none⟩ = some (.int .u8 q2) ∧ W.cell? ⟨w.heap.size + 1 + 1, 3, none⟩ = some (.int .u8 q3) ∧ W.cell? ⟨w.heap.size + 1 + 1, 4, none⟩ = some (.int .u8 q4) ∧ W.cell? ⟨w.heap.size + 1 + 1, 5, none⟩ = some (.int .u8 q5) ∧ W.cell? ⟨w.heap.size + 1 + 1, 6, none⟩ = some (.int .u8 q6) ∧ W.cell? ⟨w.heap.size + 1 + 1, 7, none⟩ = some (.int .u8 q7) ∧ W.cell? ⟨w.heap.size + 1 + 1, a, none⟩ = some (.int .u8 xa) ∧ W.cell? ⟨w.heap.size + 1 + 1, a, none⟩ = some (.int .u8 xa)) 34 (by kernel_rfl) (HALL2 _ (below_drew' (Below.refl _ _))) (fun hHeld => ?_)
                            refine any_take (by kernel_rfl) (i := 0) (oi := _) (v := ?_) rfl rfl (by kernel_rfl) (by kernel_rfl) (by kernel_rfl) (fun _ _ _ h => h) (Or.inl ⟨by rfl, ?_⟩) hHeld ?_
                            rotate_left
                            · intro w' hSw; try dsimp only at hSw
                              go_simp
                              try with_reducible rfl
                            try simp only [puts, gets]
                            refine any_take (by kernel_rfl) (i := 1) (oi := _) (v := ?_) rfl rfl (by kernel_rfl) (by kernel_rfl) (by kernel_rfl) (fun _ _ _ h => h) (Or.inl ⟨by rfl, ?_⟩) hHeld ?_
                            rotate_left
                            · intro w' hSw; try dsimp only at hSw
                              go_simp
                              try with_reducible rfl
                            try simp only [puts, gets]
                            refine any_take (by kernel_rfl) (i := 2) (oi := _) (v := ?_) rfl rfl (by kernel_rfl) (by kernel_rfl) (by kernel_rfl) (fun _ _ _ h => h) (Or.inl ⟨by rfl, ?_⟩) hHeld ?_
                            rotate_left
                            · intro w' hSw; try dsimp only at hSw
                              go_simp
                              try with_reducible rfl
                            try simp only [puts, gets]
                            refine any_take (by kernel_rfl) (i := 3) (oi := _) (v := ?_) rfl rfl (by kernel_rfl) (by kernel_rfl) (by kernel_rfl) (fun _ _ _ h => h) (Or.inl ⟨by rfl, ?_⟩) hHeld ?_
                            rotate_left
                            · intro w' hSw; try dsimp only at hSw
                              go_simp
                              try with_reducible rfl
                            try simp only [puts, gets]
                            refine any_take (by kernel_rfl) (i := 4) (oi := _) (v := undef) rfl rfl (by kernel_rfl) (by kernel_rfl) (by kernel_rfl) (fun _ _ _ h => h) (Or.inr ⟨by rfl, rfl⟩) hHeld ?_
                            try simp only [puts, gets]
                            refine any_take (by kernel_rfl) (i := 5) (oi := _) (v := undef) rfl rfl (by kernel_rfl) (by kernel_rfl) (by kernel_rfl) (fun _ _ _ h => h) (Or.inr ⟨by rfl, rfl⟩) hHeld ?_
                            try simp only [puts, gets]
                            refine any_take (by kernel_rfl) (i := 6) (oi := _) (v := undef) rfl rfl (by kernel_rfl) (by kernel_rfl) (by kernel_rfl) (fun _ _ _ h => h) (Or.inr ⟨by rfl, rfl⟩) hHeld ?_
                            try simp only [puts, gets]
                            refine any_take (by kernel_rfl) (i := 7) (oi := _) (v := undef) rfl rfl (by kernel_rfl) (by kernel_rfl) (by kernel_rfl) (fun _ _ _ h => h) (Or.inr ⟨by rfl, rfl⟩) hHeld ?_
                            try simp only [puts, gets]
                            refine any_take (by kernel_rfl) (i := 8) (oi := _) (v := undef) rfl rfl (by kernel_rfl) (by kernel_rfl) (by kernel_rfl) (fun _ _ _ h => h) (Or.inr ⟨by rfl, rfl⟩) hHeld ?_
                            try simp only [puts, gets]
                            refine any_take (by kernel_rfl) (i := 9) (oi := _) (v := undef) rfl rfl (by kernel_rfl) (by kernel_rfl) (by kernel_rfl) (fun _ _ _ h => h) (Or.inr ⟨by rfl, rfl⟩) hHeld ?_
                            try simp only [puts, gets]
                            refine any_take (by kernel_rfl) (i := 10) (oi := _) (v := undef) rfl rfl (by kernel_rfl) (by kernel_rfl) (by kernel_rfl) (fun _ _ _ h => h) (Or.inr ⟨by rfl, rfl⟩) hHeld ?_
                            try simp only [puts, gets]
                            refine any_take (by kernel_rfl) (i := 11) (oi := _) (v := ?_) rfl rfl (by kernel_rfl) (by kernel_rfl) (by kernel_rfl) (fun _ _ _ h => h) (Or.inl ⟨by rfl, ?_⟩) hHeld ?_
                            rotate_left
                            · intro w' hSw; try dsimp only at hSw
                              go_simp
                              try with_reducible rfl
                            try simp only [puts, gets]
                            refine any_take (by kernel_rfl) (i := 12) (oi := _) (v := ?_) rfl rfl (by kernel_rfl) (by kernel_rfl) (by kernel_rfl) (fun _ _ _ h => h) (Or.inl ⟨by rfl, ?_⟩) hHeld ?_
                            rotate_left
                            · intro w' hSw; try dsimp only at hSw
                              go_simp
                              try with_reducible rfl
                            try simp only [puts, gets]
                            refine any_take (by kernel_rfl) (i := 13) (oi := _) (v := undef) rfl rfl (by kernel_rfl) (by kernel_rfl) (by kernel_rfl) (fun _ _ _ h => h) (Or.inr ⟨by rfl, rfl⟩) hHeld ?_
                            try simp only [puts, gets]
                            refine any_take (by kernel_rfl) (i := 14) (oi := _) (v := undef) rfl rfl (by kernel_rfl) (by kernel_rfl) (by kernel_rfl) (fun _ _ _ h => h) (Or.inr ⟨by rfl, rfl⟩) hHeld ?_
                            try simp only [puts, gets]
                            refine any_take (by kernel_rfl) (i := 15) (oi := _) (v := undef) rfl rfl (by kernel_rfl) (by kernel_rfl) (by kernel_rfl) (fun _ _ _ h => h) (Or.inr ⟨by rfl, rfl⟩) hHeld ?_
                            try simp only [puts, gets]
                            refine any_take (by kernel_rfl) (i := 16) (oi := _) (v := undef) rfl rfl (by kernel_rfl) (by kernel_rfl) (by kernel_rfl) (fun _ _ _ h => h) (Or.inr ⟨by rfl, rfl⟩) hHeld ?_
                            try simp only [puts, gets]
                            refine any_take (by kernel_rfl) (i := 17) (oi := _) (v := undef) rfl rfl (by kernel_rfl) (by kernel_rfl) (by kernel_rfl) (fun _ _ _ h => h) (Or.inr ⟨by rfl, rfl⟩) hHeld ?_
                            try simp only [puts, gets]
                            refine any_take (by kernel_rfl) (i := 18) (oi := _) (v := undef) rfl rfl (by kernel_rfl) (by kernel_rfl) (by kernel_rfl) (fun _ _ _ h => h) (Or.inr ⟨by rfl, rfl⟩) hHeld ?_
                            try simp only [puts, gets]
                            refine any_take (by kernel_rfl) (i := 19) (oi := _) (v := undef) rfl rfl (by kernel_rfl) (by kernel_rfl) (by kernel_rfl) (fun _ _ _ h => h) (Or.inr ⟨by rfl, rfl⟩) hHeld ?_
                            try simp only [puts, gets]
                            refine any_take (by kernel_rfl) (i := 20) (oi := _) (v := ?_) rfl rfl (by kernel_rfl) (by kernel_rfl) (by kernel_rfl) (fun _ _ _ h => h) (Or.inl ⟨by rfl, ?_⟩) hHeld ?_
                            rotate_left
                            · intro w' hSw; try dsimp only at hSw
                              go_simp
                              try with_reducible rfl
                            try simp only [puts, gets]
                            refine any_take (by kernel_rfl) (i := 21) (oi := _) (v := ?_) rfl rfl (by kernel_rfl) (by kernel_rfl) (by kernel_rfl) (fun _ _ _ h => h) (Or.inl ⟨by rfl, ?_⟩) hHeld ?_
                            rotate_left
                            · intro w' hSw; try dsimp only at hSw
                              go_simp
                              try with_reducible rfl
                            try simp only [puts, gets]
                            refine any_take (by kernel_rfl) (i := 22) (oi := _) (v := ?_) rfl rfl (by kernel_rfl) (by kernel_rfl) (by kernel_rfl) (fun _ _ _ h => h) (Or.inl ⟨by rfl, ?_⟩) hHeld ?_
                            rotate_left
                            · intro w' hSw; try dsimp only at hSw
                              go_simp
                              try with_reducible rfl
                            try simp only [puts, gets]
                            refine any_take (by kernel_rfl) (i := 23) (oi := _) (v := ?_) rfl rfl (by kernel_rfl) (by kernel_rfl) (by kernel_rfl) (fun _ _ _ h => h) (Or.inl ⟨by rfl, ?_⟩) hHeld ?_
                            rotate_left
                            · intro w' hSw; try dsimp only at hSw
                              go_simp
                              try with_reducible rfl
                            try simp only [puts, gets]
                            refine any_take (by kernel_rfl) (i := 24) (oi := _) (v := ?_) rfl rfl (by kernel_rfl) (by kernel_rfl) (by kernel_rfl) (fun _ _ _ h => h) (Or.inl ⟨by rfl, ?_⟩) hHeld ?_
                            rotate_left
                            · intro w' hSw; try dsimp only at hSw
                              go_simp
                              try with_reducible rfl
                            try simp only [puts, gets]
                            refine any_take (by kernel_rfl) (i := 25) (oi := _) (v := ?_) rfl rfl (by kernel_rfl) (by kernel_rfl) (by kernel_rfl) (fun _ _ _ h => h) (Or.inl ⟨by rfl, ?_⟩) hHeld ?_
                            rotate_left
                            · intro w' hSw; try dsimp only at hSw
                              go_simp
                              try with_reducible rfl
                            try simp only [puts, gets]
                            refine any_take (by kernel_rfl) (i := 26) (oi := _) (v := ?_) rfl rfl (by kernel_rfl) (by kernel_rfl) (by kernel_rfl) (fun _ _ _ h => h) (Or.inl ⟨by rfl, ?_⟩) hHeld ?_
                            rotate_left
                            · intro w' hSw; try dsimp only at hSw
                              go_simp
                              try with_reducible rfl
                            try simp only [puts, gets]
                            refine any_take (by kernel_rfl) (i := 27) (oi := _) (v := ?_) rfl rfl (by kernel_rfl) (by kernel_rfl) (by kernel_rfl) (fun _ _ _ h => h) (Or.inl ⟨by rfl, ?_⟩) hHeld ?_
                            rotate_left
                            · intro w' hSw; try dsimp only at hSw
                              go_simp
                              try with_reducible rfl
                            try simp only [puts, gets]
                            refine any_take (by kernel_rfl) (i := 28) (oi := _) (v := ?_) rfl rfl (by kernel_rfl) (by kernel_rfl) (by kernel_rfl) (fun _ _ _ h => h) (Or.inl ⟨by rfl, ?_⟩) hHeld ?_
                            rotate_left
                            · intro w' hSw; try dsimp only at hSw
                              go_simp
                              try with_reducible rfl
                            try simp only [puts, gets]
                            refine any_take (by kernel_rfl) (i := 29) (oi := _) (v := ?_) rfl rfl (by kernel_rfl) (by kernel_rfl) (by kernel_rfl) (fun _ _ _ h => h) (Or.inl ⟨by rfl, ?_⟩) hHeld ?_
                            rotate_left
                            · intro w' hSw; try dsimp only at hSw
                              go_simp
                              try with_reducible rfl
                            try simp only [puts, gets]
                            refine any_take (by kernel_rfl) (i := 30) (oi := _) (v := ?_) rfl rfl (by kernel_rfl) (by kernel_rfl) (by kernel_rfl) (fun _ _ _ h => h) (Or.inl ⟨by rfl, ?_⟩) hHeld ?_
                            rotate_left
                            · intro w' hSw; try dsimp only at hSw
                              go_simp
                              try with_reducible rfl
                            try simp only [puts, gets]
                            refine any_next (i := 31) (by kernel_rfl) rfl rfl (fun K hK => ?_)
                            go_simp
                            go_at_call 38
                            refine least_ts HQ HAB.out HSC.out hnI HM2 ?_
                            intro wD bD
                            replace bD : Below w9.heap.size w9 wD := below_undrew bD
                            refine hK.out _ _ ?_ (fun hHeld => ?_)
                            · exact HALL2 _ bD
                            clear hK K
                            try simp only [puts, gets]
                            refine any_take (by kernel_rfl) (i := 32) (oi := _) (v := ?_) rfl rfl (by kernel_rfl) (by kernel_rfl) (by kernel_rfl) (fun _ _ _ h => h) (Or.inl ⟨by rfl, ?_⟩) hHeld ?_
                            rotate_left
                            · intro w' hSw; try dsimp only at hSw
                              go_simp
                              try with_reducible rfl
                            try simp only [puts, gets]
                            refine any_take (by kernel_rfl) (i := 33) (oi := _) (v := ?_) rfl rfl (by kernel_rfl) (by kernel_rfl) (by kernel_rfl) (fun _ _ _ h => h) (Or.inl ⟨by rfl, ?_⟩) hHeld ?_
                            rotate_left
                            · intro w' hSw; try dsimp only at hSw
                              go_simp
                              try with_reducible rfl
                            try simp only [puts, gets]
                            refine any_done (by kernel_rfl) ?_ _
                            refine NoPanic.normal ?_
                            go_wp2
                            go_meet
                            case rel => exact ⟨by rw [HV.out]; cases tt <;> rfl, bD⟩
                          · have hne : ((a : Int) != (b : Int)) = true := by simp; omega
                            have hne2 : (a != b) = true := by simp; omega
                            cases hoab : ordL L a b
                            · rw [hoab, if_neg (by simp)] at hta
                              have HOB1 := Lib.hid hoab
                              clear hoab htb
                              obtain ⟨m2, HM2⟩ : ∃ m2, Hid (leastOf L.elems.length (ordL L) (fun c => ordL L a c && ordL L b c) = m2) := ⟨_, Lib.hid rfl⟩
                              have HV := Lib.hid (show okp L.elems.length (ordL L) a b = !decide (m2 < 0) by
                                unfold okp
                                have e : decide ((0 : Int) ≤ m2) = !decide (m2 < 0) := by rw [← decide_not, decide_eq_decide]; omega
                                rw [HM2.out, e]
                                rw [HOB1.out]; simp)
                              obtain ⟨tt, htt⟩ : ∃ tt, decide (m2 < 0) = tt := ⟨_, rfl⟩
                              rw [htt] at HV
                              refine wp_region_noPanic ?_
                              refine wp_region_late (fun W => W.cell? ⟨w.heap.size + 1 + 1, 0, none⟩ = some (.int .u8 q0) ∧ W.cell? ⟨w.heap.size + 1 + 1, 1, none⟩ = some (.int .u8 q1) ∧ W.cell? ⟨w.heap.size + 1 + 1, 2, none⟩ = some (.int .u8 q2) ∧ W.cell? ⟨w.heap.size + 1 + 1, 3, none⟩ = some (.int .u8 q3) ∧ W.cell? ⟨w.heap.size + 1 + 1, 4, none⟩ = some (.int .u8 q4) ∧ W.cell? ⟨w.heap.size + 1 + 1, 5, none⟩ = some (.int .u8 q5) ∧ W.cell? ⟨w.heap.size + 1 + 1, 6, none⟩ = some (.int .u8 q6) ∧ W.cell? ⟨w.heap.size + 1 + 1, 7, none⟩ = some (.int .u8 q7) ∧ W.cell? ⟨w.heap.size + 1 + 1, a, none⟩ = some (.int .u8 xa) ∧ W.cell? ⟨w.heap.size + 1 + 1, b, none⟩ = some (.int .u8 xb)) 34 (by kernel_rfl) (HALL2 _ (below_drew' (Below.refl _ _))) (fun hHeld => ?_)
                              refine any_take (by kernel_rfl) (i := 0) (oi := _) (v := ?_) rfl rfl (by kernel_rfl) (by kernel_rfl) (by kernel_rfl) (fun _ _ _ h => h) (Or.inl ⟨by rfl, ?_⟩) hHeld ?_
                              rotate_left
                              · intro w' hSw; try dsimp only at hSw
                                go_simp
                                try with_reducible rfl
                              try simp only [puts, gets]
                              refine any_take (by kernel_rfl) (i := 1) (oi := _) (v := ?_) rfl rfl (by kernel_rfl) (by kernel_rfl) (by kernel_rfl) (fun _ _ _ h => h) (Or.inl ⟨by rfl, ?_⟩) hHeld ?_
                              rotate_left
                              · intro w' hSw; try dsimp only at hSw
                                go_simp
                                try with_reducible rfl
                              try simp only [puts, gets]
                              refine any_take (by kernel_rfl) (i := 2) (oi := _) (v := ?_) rfl rfl (by kernel_rfl) (by kernel_rfl) (by kernel_rfl) (fun _ _ _ h => h) (Or.inl ⟨by rfl, ?_⟩) hHeld ?_
                              rotate_left
                              · intro w' hSw; try dsimp only at hSw
                                go_simp
                                try with_reducible rfl
                              try simp only [puts, gets]
                              refine any_take (by kernel_rfl) (i := 3) (oi := _) (v := ?_) rfl rfl (by kernel_rfl) (by kernel_rfl) (by kernel_rfl) (fun _ _ _ h => h) (Or.inl ⟨by rfl, ?_⟩) hHeld ?_
                              rotate_left
                              · intro w' hSw; try dsimp only at hSw
                                go_simp
                                try with_reducible rfl
                              try simp only [puts, gets]
                              refine any_take (by kernel_rfl) (i := 4) (oi := _) (v := ?_) rfl rfl (by kernel_rfl) (by kernel_rfl) (by kernel_rfl) (fun _ _ _ h => h) (Or.inl ⟨by rfl, ?_⟩) hHeld ?_
                              rotate_left
                              · intro w' hSw; try dsimp only at hSw
                                go_simp
                                try with_reducible rfl
                              try simp only [puts, gets]
                              refine any_take (by kernel_rfl) (i := 5) (oi := _) (v := ?_) rfl rfl (by kernel_rfl) (by kernel_rfl) (by kernel_rfl) (fun _ _ _ h => h) (Or.inl ⟨by rfl, ?_⟩) hHeld ?_
                              rotate_left
                              · intro w' hSw; try dsimp only at hSw
                                go_simp
                                try with_reducible rfl
                              try simp only [puts, gets]
                              refine any_take (by kernel_rfl) (i := 6) (oi := _) (v := ?_) rfl rfl (by kernel_rfl) (by kernel_rfl) (by kernel_rfl) (fun _ _ _ h => h) (Or.inl ⟨by rfl, ?_⟩) hHeld ?_
                              rotate_left
                              · intro w' hSw; try dsimp only at hSw
                                go_simp
                                try with_reducible rfl
                              try simp only [puts, gets]
                              refine any_take (by kernel_rfl) (i := 7) (oi := _) (v := ?_) rfl rfl (by kernel_rfl) (by kernel_rfl) (by kernel_rfl) (fun _ _ _ h => h) (Or.inl ⟨by rfl, ?_⟩) hHeld ?_
                              rotate_left
                              · intro w' hSw; try dsimp only at hSw
                                go_simp
                                try with_reducible rfl
                              try simp only [puts, gets]
                              refine any_take (by kernel_rfl) (i := 8) (oi := _) (v := ?_) rfl rfl (by kernel_rfl) (by kernel_rfl) (by kernel_rfl) (fun _ _ _ h => h) (Or.inl ⟨by rfl, ?_⟩) hHeld ?_
                              rotate_left
                              · intro w' hSw; try dsimp only at hSw
                                go_simp
                                try with_reducible rfl
                              try simp only [puts, gets]
                              refine any_take (by kernel_rfl) (i := 9) (oi := _) (v := ?_) rfl rfl (by kernel_rfl) (by kernel_rfl) (by kernel_rfl) (fun _ _ _ h => h) (Or.inl ⟨by rfl, ?_⟩) hHeld ?_
                              rotate_left
                              · intro w' hSw; try dsimp only at hSw
                                go_simp
                                try with_reducible rfl
                              try simp only [puts, gets]
                              refine any_take (by kernel_rfl) (i := 10) (oi := _) (v := ?_) rfl rfl (by kernel_rfl) (by kernel_rfl) (by kernel_rfl) (fun _ _ _ h => h) (Or.inl ⟨by rfl, ?_⟩) hHeld ?_
                              rotate_left
                              · intro w' hSw; try dsimp only at hSw
                                go_simp
                                try with_reducible rfl
                              try simp only [puts, gets]
                              refine any_take (by kernel_rfl) (i := 11) (oi := _) (v := ?_) rfl rfl (by kernel_rfl) (by kernel_rfl) (by kernel_rfl) (fun _ _ _ h => h) (Or.inl ⟨by rfl, ?_⟩) hHeld ?_
                              rotate_left
                              · intro w' hSw; try dsimp only at hSw
                                go_simp
                                try with_reducible rfl
                              try simp only [puts, gets]
                              refine any_take (by kernel_rfl) (i := 12) (oi := _) (v := ?_) rfl rfl (by kernel_rfl) (by kernel_rfl) (by kernel_rfl) (fun _ _ _ h => h) (Or.inl ⟨by rfl, ?_⟩) hHeld ?_
                              rotate_left
                              · intro w' hSw; try dsimp only at hSw
                                go_simp
                                try with_reducible rfl
                              try simp only [puts, gets]
                              refine any_take (by kernel_rfl) (i := 13) (oi := _) (v := undef) rfl rfl (by kernel_rfl) (by kernel_rfl) (by kernel_rfl) (fun _ _ _ h => h) (Or.inr ⟨by rfl, rfl⟩) hHeld ?_
                              try simp only [puts, gets]
                              refine any_take (by kernel_rfl) (i := 14) (oi := _) (v := undef) rfl rfl (by kernel_rfl) (by kernel_rfl) (by kernel_rfl) (fun _ _ _ h => h) (Or.inr ⟨by rfl, rfl⟩) hHeld ?_
                              try simp only [puts, gets]
                              refine any_take (by kernel_rfl) (i := 15) (oi := _) (v := undef) rfl rfl (by kernel_rfl) (by kernel_rfl) (by kernel_rfl) (fun _ _ _ h => h) (Or.inr ⟨by rfl, rfl⟩) hHeld ?_
                              try simp only [puts, gets]
                              refine any_take (by kernel_rfl) (i := 16) (oi := _) (v := undef) rfl rfl (by kernel_rfl) (by kernel_rfl) (by kernel_rfl) (fun _ _ _ h => h) (Or.inr ⟨by rfl, rfl⟩) hHeld ?_
                              try simp only [puts, gets]
                              refine any_take (by kernel_rfl) (i := 17) (oi := _) (v := undef) rfl rfl (by kernel_rfl) (by kernel_rfl) (by kernel_rfl) (fun _ _ _ h => h) (Or.inr ⟨by rfl, rfl⟩) hHeld ?_
                              try simp only [puts, gets]
                              refine any_take (by kernel_rfl) (i := 18) (oi := _) (v := undef) rfl rfl (by kernel_rfl) (by kernel_rfl) (by kernel_rfl) (fun _ _ _ h => h) (Or.inr ⟨by rfl, rfl⟩) hHeld ?_
                              try simp only [puts, gets]
                              refine any_take (by kernel_rfl) (i := 19) (oi := _) (v := undef) rfl rfl (by kernel_rfl) (by kernel_rfl) (by kernel_rfl) (fun _ _ _ h => h) (Or.inr ⟨by rfl, rfl⟩) hHeld ?_
                              try simp only [puts, gets]
                              refine any_take (by kernel_rfl) (i := 20) (oi := _) (v := ?_) rfl rfl (by kernel_rfl) (by kernel_rfl) (by kernel_rfl) (fun _ _ _ h => h) (Or.inl ⟨by rfl, ?_⟩) hHeld ?_
                              rotate_left
                              · intro w' hSw; try dsimp only at hSw
                                go_simp
                                try with_reducible rfl
                              try simp only [puts, gets]
                              refine any_take (by kernel_rfl) (i := 21) (oi := _) (v := ?_) rfl rfl (by kernel_rfl) (by kernel_rfl) (by kernel_rfl) (fun _ _ _ h => h) (Or.inl ⟨by rfl, ?_⟩) hHeld ?_
                              rotate_left
                              · intro w' hSw; try dsimp only at hSw
                                go_simp
                                try with_reducible rfl
                              try simp only [puts, gets]
                              refine any_take (by kernel_rfl) (i := 22) (oi := _) (v := ?_) rfl rfl (by kernel_rfl) (by kernel_rfl) (by kernel_rfl) (fun _ _ _ h => h) (Or.inl ⟨by rfl, ?_⟩) hHeld ?_
                              rotate_left
                              · intro w' hSw; try dsimp only at hSw
                                go_simp
                                try with_reducible rfl
                              try simp only [puts, gets]
                              refine any_take (by kernel_rfl) (i := 23) (oi := _) (v := ?_) rfl rfl (by kernel_rfl) (by kernel_rfl) (by kernel_rfl) (fun _ _ _ h => h) (Or.inl ⟨by rfl, ?_⟩) hHeld ?_
                              rotate_left
                              · intro w' hSw; try dsimp only at hSw
                                go_simp
                                try with_reducible rfl
                              try simp only [puts, gets]
                              refine any_take (by kernel_rfl) (i := 24) (oi := _) (v := ?_) rfl rfl (by kernel_rfl) (by kernel_rfl) (by kernel_rfl) (fun _ _ _ h => h) (Or.inl ⟨by rfl, ?_⟩) hHeld ?_
                              rotate_left
                              · intro w' hSw; try dsimp only at hSw
                                go_simp
                                try with_reducible rfl
                              try simp only [puts, gets]
                              refine any_take (by kernel_rfl) (i := 25) (oi := _) (v := ?_) rfl rfl (by kernel_rfl) (by kernel_rfl) (by kernel_rfl) (fun _ _ _ h => h) (Or.inl ⟨by rfl, ?_⟩) hHeld ?_
                              rotate_left
                              · intro w' hSw; try dsimp only at hSw
                                go_simp
                                try with_reducible rfl
                              try simp only [puts, gets]
                              refine any_take (by kernel_rfl) (i := 26) (oi := _) (v := ?_) rfl rfl (by kernel_rfl) (by kernel_rfl) (by kernel_rfl) (fun _ _ _ h => h) (Or.inl ⟨by rfl, ?_⟩) hHeld ?_
                              rotate_left
                              · intro w' hSw; try dsimp only at hSw
                                go_simp
                                try with_reducible rfl
                              try simp only [puts, gets]
                              refine any_take (by kernel_rfl) (i := 27) (oi := _) (v := ?_) rfl rfl (by kernel_rfl) (by kernel_rfl) (by kernel_rfl) (fun _ _ _ h => h) (Or.inl ⟨by rfl, ?_⟩) hHeld ?_
                              rotate_left
                              · intro w' hSw; try dsimp only at hSw
                                go_simp
                                try with_reducible rfl
                              try simp only [puts, gets]
                              refine any_take (by kernel_rfl) (i := 28) (oi := _) (v := ?_) rfl rfl (by kernel_rfl) (by kernel_rfl) (by kernel_rfl) (fun _ _ _ h => h) (Or.inl ⟨by rfl, ?_⟩) hHeld ?_
                              rotate_left
                              · intro w' hSw; try dsimp only at hSw
                                go_simp
                                try with_reducible rfl
                              try simp only [puts, gets]
                              refine any_take (by kernel_rfl) (i := 29) (oi := _) (v := ?_) rfl rfl (by kernel_rfl) (by kernel_rfl) (by kernel_rfl) (fun _ _ _ h => h) (Or.inl ⟨by rfl, ?_⟩) hHeld ?_
                              rotate_left
                              · intro w' hSw; try dsimp only at hSw
                                go_simp
                                try with_reducible rfl
                              try simp only [puts, gets]
                              refine any_take (by kernel_rfl) (i := 30) (oi := _) (v := ?_) rfl rfl (by kernel_rfl) (by kernel_rfl) (by kernel_rfl) (fun _ _ _ h => h) (Or.inl ⟨by rfl, ?_⟩) hHeld ?_
                              rotate_left
                              · intro w' hSw; try dsimp only at hSw
                                go_simp
                                try with_reducible rfl
                              try simp only [puts, gets]
                              refine any_next (i := 31) (by kernel_rfl) rfl rfl (fun K hK => ?_)
                              go_simp
                              go_at_call 38
                              refine least_ts HQ HAB.out HSC.out hnI HM2 ?_
                              intro wD bD
                              replace bD : Below w9.heap.size w9 wD := below_undrew bD
                              refine hK.out _ _ ?_ (fun hHeld => ?_)
                              · exact HALL2 _ bD
                              clear hK K
                              try simp only [puts, gets]
                              refine any_take (by kernel_rfl) (i := 32) (oi := _) (v := ?_) rfl rfl (by kernel_rfl) (by kernel_rfl) (by kernel_rfl) (fun _ _ _ h => h) (Or.inl ⟨by rfl, ?_⟩) hHeld ?_
                              rotate_left
                              · intro w' hSw; try dsimp only at hSw
                                go_simp
                                try with_reducible rfl
                              try simp only [puts, gets]
                              refine any_take (by kernel_rfl) (i := 33) (oi := _) (v := ?_) rfl rfl (by kernel_rfl) (by kernel_rfl) (by kernel_rfl) (fun _ _ _ h => h) (Or.inl ⟨by rfl, ?_⟩) hHeld ?_
                              rotate_left
                              · intro w' hSw; try dsimp only at hSw
                                go_simp
                                try with_reducible rfl
                              try simp only [puts, gets]
                              refine any_done (by kernel_rfl) ?_ _
                              refine NoPanic.normal ?_
                              go_wp2
                              go_meet
                              case rel => exact ⟨by rw [HV.out]; cases tt <;> rfl, bD⟩
                            · rw [hoab, if_pos rfl] at hta
                              have HOB1 := Lib.hid hoab
                              clear hoab
                              cases hoba : ordL L b a
                              · rw [hoba, if_neg (by simp)] at htb
                                have HOB2 := Lib.hid hoba
                                clear hoba
                                obtain ⟨m2, HM2⟩ : ∃ m2, Hid (leastOf L.elems.length (ordL L) (fun c => ordL L a c && ordL L b c) = m2) := ⟨_, Lib.hid rfl⟩
                                have HV := Lib.hid (show okp L.elems.length (ordL L) a b = !decide (m2 < 0) by
                                  unfold okp
                                  have e : decide ((0 : Int) ≤ m2) = !decide (m2 < 0) := by rw [← decide_not, decide_eq_decide]; omega
                                  rw [HM2.out, e]
                                  rw [HOB2.out]; simp)
                                obtain ⟨tt, htt⟩ : ∃ tt, decide (m2 < 0) = tt := ⟨_, rfl⟩
                                rw [htt] at HV
                                refine wp_region_noPanic ?_
                                refine wp_region_late (fun W => W.cell? ⟨w.heap.size + 1 + 1, 0, none⟩ = some (.int .u8 q0) ∧ W.cell? ⟨w.heap.size + 1 + 1, 1, none⟩ = some (.int .u8 q1) ∧ W.cell? ⟨w.heap.size + 1 + 1, 2, none⟩ = some (.int .u8 q2) ∧ W.cell? ⟨w.heap.size + 1 + 1, 3, none⟩ = some (.int .u8 q3) ∧ W.cell? ⟨w.heap.size + 1 + 1, 4, none⟩ = some (.int .u8 q4) ∧ W.cell? ⟨w.heap.size + 1 + 1, 5, none⟩ = some (.int .u8 q5) ∧ W.cell? ⟨w.heap.size + 1 + 1, 6, none⟩ = some (.int .u8 q6) ∧ W.cell? ⟨w.heap.size + 1 + 1, 7, none⟩ = some (.int .u8 q7) ∧ W.cell? ⟨w.heap.size + 1 + 1, a, none⟩ = some (.int .u8 xa) ∧ W.cell? ⟨w.heap.size + 1 + 1, b, none⟩ = some (.int .u8 xb)) 34 (by kernel_rfl) (HALL2 _ (below_drew' (Below.refl _ _))) (fun hHeld => ?_)
                                refine any_take (by kernel_rfl) (i := 0) (oi := _) (v := ?_) rfl rfl (by kernel_rfl) (by kernel_rfl) (by kernel_rfl) (fun _ _ _ h => h) (Or.inl ⟨by rfl, ?_⟩) hHeld ?_
                                rotate_left
                                · intro w' hSw; try dsimp only at hSw
                                  go_simp
                                  try with_reducible rfl
                                try simp only [puts, gets]
                                refine any_take (by kernel_rfl) (i := 1) (oi := _) (v := ?_) rfl rfl (by kernel_rfl) (by kernel_rfl) (by kernel_rfl) (fun _ _ _ h => h) (Or.inl ⟨by rfl, ?_⟩) hHeld ?_
                                rotate_left
                                · intro w' hSw; try dsimp only at hSw
                                  go_simp
                                  try with_reducible rfl
                                try simp only [puts, gets]
                                refine any_take (by kernel_rfl) (i := 2) (oi := _) (v := ?_) rfl rfl (by kernel_rfl) (by kernel_rfl) (by kernel_rfl) (fun _ _ _ h => h) (Or.inl ⟨by rfl, ?_⟩) hHeld ?_
                                rotate_left
                                · intro w' hSw; try dsimp only at hSw
                                  go_simp
                                  try with_reducible rfl
                                try simp only [puts, gets]
                                refine any_take (by kernel_rfl) (i := 3) (oi := _) (v := ?_) rfl rfl (by kernel_rfl) (by kernel_rfl) (by kernel_rfl) (fun _ _ _ h => h) (Or.inl ⟨by rfl, ?_⟩) hHeld ?_
                                rotate_left
                                · intro w' hSw; try dsimp only at hSw
                                  go_simp
                                  try with_reducible rfl
                                try simp only [puts, gets]
                                refine any_take (by kernel_rfl) (i := 4) (oi := _) (v := ?_) rfl rfl (by kernel_rfl) (by kernel_rfl) (by kernel_rfl) (fun _ _ _ h => h) (Or.inl ⟨by rfl, ?_⟩) hHeld ?_
                                rotate_left
                                · intro w' hSw; try dsimp only at hSw
                                  go_simp
                                  try with_reducible rfl
                                try simp only [puts, gets]
                                refine any_take (by kernel_rfl) (i := 5) (oi := _) (v := ?_) rfl rfl (by kernel_rfl) (by kernel_rfl) (by kernel_rfl) (fun _ _ _ h => h) (Or.inl ⟨by rfl, ?_⟩) hHeld ?_
                                rotate_left
                                · intro w' hSw; try dsimp only at hSw
                                  go_simp
                                  try with_reducible rfl
                                try simp only [puts, gets]
                                refine any_take (by kernel_rfl) (i := 6) (oi := _) (v := ?_) rfl rfl (by kernel_rfl) (by kernel_rfl) (by kernel_rfl) (fun _ _ _ h => h) (Or.inl ⟨by rfl, ?_⟩) hHeld ?_
                                rotate_left
                                · intro w' hSw; try dsimp only at hSw
                                  go_simp
                                  try with_reducible rfl
                                try simp only [puts, gets]
                                refine any_take (by kernel_rfl) (i := 7) (oi := _) (v := ?_) rfl rfl (by kernel_rfl) (by kernel_rfl) (by kernel_rfl) (fun _ _ _ h => h) (Or.inl ⟨by rfl, ?_⟩) hHeld ?_
                                rotate_left
                                · intro w' hSw; try dsimp only at hSw
                                  go_simp
                                  try with_reducible rfl
                                try simp only [puts, gets]
                                refine any_take (by kernel_rfl) (i := 8) (oi := _) (v := ?_) rfl rfl (by kernel_rfl) (by kernel_rfl) (by kernel_rfl) (fun _ _ _ h => h) (Or.inl ⟨by rfl, ?_⟩) hHeld ?_
                                rotate_left
                                · intro w' hSw; try dsimp only at hSw
                                  go_simp
                                  try with_reducible rfl
                                try simp only [puts, gets]
                                refine any_take (by kernel_rfl) (i := 9) (oi := _) (v := ?_) rfl rfl (by kernel_rfl) (by kernel_rfl) (by kernel_rfl) (fun _ _ _ h => h) (Or.inl ⟨by rfl, ?_⟩) hHeld ?_
                                rotate_left
                                · intro w' hSw; try dsimp only at hSw
                                  go_simp
                                  try with_reducible rfl
                                try simp only [puts, gets]
                                refine any_take (by kernel_rfl) (i := 10) (oi := _) (v := ?_) rfl rfl (by kernel_rfl) (by kernel_rfl) (by kernel_rfl) (fun _ _ _ h => h) (Or.inl ⟨by rfl, ?_⟩) hHeld ?_
                                rotate_left
                                · intro w' hSw; try dsimp only at hSw
                                  go_simp
                                  try with_reducible rfl
                                try simp only [puts, gets]
                                refine any_take (by kernel_rfl) (i := 11) (oi := _) (v := ?_) rfl rfl (by kernel_rfl) (by kernel_rfl) (by kernel_rfl) (fun _ _ _ h => h) (Or.inl ⟨by rfl, ?_⟩) hHeld ?_
                                rotate_left
                                · intro w' hSw; try dsimp only at hSw
                                  go_simp
                                  try with_reducible rfl
                                try simp only [puts, gets]
                                refine any_take (by kernel_rfl) (i := 12) (oi := _) (v := ?_) rfl rfl (by kernel_rfl) (by kernel_rfl) (by kernel_rfl) (fun _ _ _ h => h) (Or.inl ⟨by rfl, ?_⟩) hHeld ?_
                                rotate_left
                                · intro w' hSw; try dsimp only at hSw
                                  go_simp
                                  try with_reducible rfl
                                try simp only [puts, gets]
                                refine any_take (by kernel_rfl) (i := 13) (oi := _) (v := ?_) rfl rfl (by kernel_rfl) (by kernel_rfl) (by kernel_rfl) (fun _ _ _ h => h) (Or.inl ⟨by rfl, ?_⟩) hHeld ?_
                                rotate_left
                                · intro w' hSw; try dsimp only at hSw
                                  go_simp
                                  try with_reducible rfl
                                try simp only [puts, gets]
                                refine any_take (by kernel_rfl) (i := 14) (oi := _) (v := ?_) rfl rfl (by kernel_rfl) (by kernel_rfl) (by kernel_rfl) (fun _ _ _ h => h) (Or.inl ⟨by rfl, ?_⟩) hHeld ?_
                                rotate_left
                                · intro w' hSw; try dsimp only at hSw
                                  go_simp
                                  try with_reducible rfl
                                try simp only [puts, gets]
                                refine any_take (by kernel_rfl) (i := 15) (oi := _) (v := ?_) rfl rfl (by kernel_rfl) (by kernel_rfl) (by kernel_rfl) (fun _ _ _ h => h) (Or.inl ⟨by rfl, ?_⟩) hHeld ?_
                                rotate_left
                                · intro w' hSw; try dsimp only at hSw
                                  go_simp
                                  try with_reducible rfl
                                try simp only [puts, gets]
                                refine any_take (by kernel_rfl) (i := 16) (oi := _) (v := ?_) rfl rfl (by kernel_rfl) (by kernel_rfl) (by kernel_rfl) (fun _ _ _ h => h) (Or.inl ⟨by rfl, ?_⟩) hHeld ?_
                                rotate_left
                                · intro w' hSw; try dsimp only at hSw
                                  go_simp
                                  try with_reducible rfl
                                try simp only [puts, gets]
                                refine any_take (by kernel_rfl) (i := 17) (oi := _) (v := ?_) rfl rfl (by kernel_rfl) (by kernel_rfl) (by kernel_rfl) (fun _ _ _ h => h) (Or.inl ⟨by rfl, ?_⟩) hHeld ?_
                                rotate_left
                                · intro w' hSw; try dsimp only at hSw
                                  go_simp
                                  try with_reducible rfl
                                try simp only [puts, gets]
                                refine any_take (by kernel_rfl) (i := 18) (oi := _) (v := ?_) rfl rfl (by kernel_rfl) (by kernel_rfl) (by kernel_rfl) (fun _ _ _ h => h) (Or.inl ⟨by rfl, ?_⟩) hHeld ?_
                                rotate_left
                                · intro w' hSw; try dsimp only at hSw
                                  go_simp
                                  try with_reducible rfl
                                try simp only [puts, gets]
                                refine any_take (by kernel_rfl) (i := 19) (oi := _) (v := ?_) rfl rfl (by kernel_rfl) (by kernel_rfl) (by kernel_rfl) (fun _ _ _ h => h) (Or.inl ⟨by rfl, ?_⟩) hHeld ?_
                                rotate_left
                                · intro w' hSw; try dsimp only at hSw
                                  go_simp
                                  try with_reducible rfl
                                try simp only [puts, gets]
                                refine any_take (by kernel_rfl) (i := 20) (oi := _) (v := ?_) rfl rfl (by kernel_rfl) (by kernel_rfl) (by kernel_rfl) (fun _ _ _ h => h) (Or.inl ⟨by rfl, ?_⟩) hHeld ?_
                                rotate_left
                                · intro w' hSw; try dsimp only at hSw
                                  go_simp
                                  try with_reducible rfl
                                try simp only [puts, gets]
                                refine any_take (by kernel_rfl) (i := 21) (oi := _) (v := ?_) rfl rfl (by kernel_rfl) (by kernel_rfl) (by kernel_rfl) (fun _ _ _ h => h) (Or.inl ⟨by rfl, ?_⟩) hHeld ?_
                                rotate_left
                                · intro w' hSw; try dsimp only at hSw
                                  go_simp
                                  try with_reducible rfl
                                try simp only [puts, gets]
                                refine any_take (by kernel_rfl) (i := 22) (oi := _) (v := ?_) rfl rfl (by kernel_rfl) (by kernel_rfl) (by kernel_rfl) (fun _ _ _ h => h) (Or.inl ⟨by rfl, ?_⟩) hHeld ?_
                                rotate_left
                                · intro w' hSw; try dsimp only at hSw
                                  go_simp
                                  try with_reducible rfl
                                try simp only [puts, gets]
                                refine any_take (by kernel_rfl) (i := 23) (oi := _) (v := ?_) rfl rfl (by kernel_rfl) (by kernel_rfl) (by kernel_rfl) (fun _ _ _ h => h) (Or.inl ⟨by rfl, ?_⟩) hHeld ?_
                                rotate_left
                                · intro w' hSw; try dsimp only at hSw
                                  go_simp
                                  try with_reducible rfl
                                try simp only [puts, gets]
                                refine any_take (by kernel_rfl) (i := 24) (oi := _) (v := ?_) rfl rfl (by kernel_rfl) (by kernel_rfl) (by kernel_rfl) (fun _ _ _ h => h) (Or.inl ⟨by rfl, ?_⟩) hHeld ?_
                                rotate_left
                                · intro w' hSw; try dsimp only at hSw
                                  go_simp
                                  try with_reducible rfl
                                try simp only [puts, gets]
                                refine any_take (by kernel_rfl) (i := 25) (oi := _) (v := ?_) rfl rfl (by kernel_rfl) (by kernel_rfl) (by kernel_rfl) (fun _ _ _ h => h) (Or.inl ⟨by rfl, ?_⟩) hHeld ?_
                                rotate_left
                                · intro w' hSw; try dsimp only at hSw
                                  go_simp
                                  try with_reducible rfl
                                try simp only [puts, gets]
                                refine any_take (by kernel_rfl) (i := 26) (oi := _) (v := ?_) rfl rfl (by kernel_rfl) (by kernel_rfl) (by kernel_rfl) (fun _ _ _ h => h) (Or.inl ⟨by rfl, ?_⟩) hHeld ?_
                                rotate_left
                                · intro w' hSw; try dsimp only at hSw
                                  go_simp
                                  try with_reducible rfl
                                try simp only [puts, gets]
                                refine any_take (by kernel_rfl) (i := 27) (oi := _) (v := ?_) rfl rfl (by kernel_rfl) (by kernel_rfl) (by kernel_rfl) (fun _ _ _ h => h) (Or.inl ⟨by rfl, ?_⟩) hHeld ?_
                                rotate_left
                                · intro w' hSw; try dsimp only at hSw
                                  go_simp
                                  try with_reducible rfl
                                try simp only [puts, gets]
                                refine any_take (by kernel_rfl) (i := 28) (oi := _) (v := ?_) rfl rfl (by kernel_rfl) (by kernel_rfl) (by kernel_rfl) (fun _ _ _ h => h) (Or.inl ⟨by rfl, ?_⟩) hHeld ?_
                                rotate_left
                                · intro w' hSw; try dsimp only at hSw
                                  go_simp
                                  try with_reducible rfl
                                try simp only [puts, gets]
                                refine any_take (by kernel_rfl) (i := 29) (oi := _) (v := ?_) rfl rfl (by kernel_rfl) (by kernel_rfl) (by kernel_rfl) (fun _ _ _ h => h) (Or.inl ⟨by rfl, ?_⟩) hHeld ?_
                                rotate_left
                                · intro w' hSw; try dsimp only at hSw
                                  go_simp
                                  try with_reducible rfl
                                try simp only [puts, gets]
                                refine any_take (by kernel_rfl) (i := 30) (oi := _) (v := ?_) rfl rfl (by kernel_rfl) (by kernel_rfl) (by kernel_rfl) (fun _ _ _ h => h) (Or.inl ⟨by rfl, ?_⟩) hHeld ?_
                                rotate_left
                                · intro w' hSw; try dsimp only at hSw
                                  go_simp
                                  try with_reducible rfl
                                try simp only [puts, gets]
                                refine any_next (i := 31) (by kernel_rfl) rfl rfl (fun K hK => ?_)
                                go_simp
                                go_at_call 38
                                refine least_ts HQ HAB.out HSC.out hnI HM2 ?_
                                intro wD bD
                                replace bD : Below w9.heap.size w9 wD := below_undrew bD
                                refine hK.out _ _ ?_ (fun hHeld => ?_)
                                · exact HALL2 _ bD
                                clear hK K
                                try simp only [puts, gets]
                                refine any_take (by kernel_rfl) (i := 32) (oi := _) (v := ?_) rfl rfl (by kernel_rfl) (by kernel_rfl) (by kernel_rfl) (fun _ _ _ h => h) (Or.inl ⟨by rfl, ?_⟩) hHeld ?_
                                rotate_left
                                · intro w' hSw; try dsimp only at hSw
                                  go_simp
                                  try with_reducible rfl
                                try simp only [puts, gets]
                                refine any_take (by kernel_rfl) (i := 33) (oi := _) (v := ?_) rfl rfl (by kernel_rfl) (by kernel_rfl) (by kernel_rfl) (fun _ _ _ h => h) (Or.inl ⟨by rfl, ?_⟩) hHeld ?_
                                rotate_left
                                · intro w' hSw; try dsimp only at hSw
                                  go_simp
                                  try with_reducible rfl
                                try simp only [puts, gets]
                                refine any_done (by kernel_rfl) ?_ _
                                refine NoPanic.normal ?_
                                go_wp2
                                go_meet
                                case rel => exact ⟨by rw [HV.out]; cases tt <;> rfl, bD⟩
                              · rw [hoba, if_pos rfl] at htb
                                have HV := Lib.hid (show okp L.elems.length (ordL L) a b = false by
                                  unfold okp
                                  rw [HOB1.out, hoba, decide_eq_true hab]; rfl)
                                clear hoba
                                refine wp_region_noPanic ?_
                                refine wp_region_late (fun W => W.cell? ⟨w.heap.size + 1 + 1, 0, none⟩ = some (.int .u8 q0) ∧ W.cell? ⟨w.heap.size + 1 + 1, 1, none⟩ = some (.int .u8 q1) ∧ W.cell? ⟨w.heap.size + 1 + 1, 2, none⟩ = some (.int .u8 q2) ∧ W.cell? ⟨w.heap.size + 1 + 1, 3, none⟩ = some (.int .u8 q3) ∧ W.cell? ⟨w.heap.size + 1 + 1, 4, none⟩ = some (.int .u8 q4) ∧ W.cell? ⟨w.heap.size + 1 + 1, 5, none⟩ = some (.int .u8 q5) ∧ W.cell? ⟨w.heap.size + 1 + 1, 6, none⟩ = some (.int .u8 q6) ∧ W.cell? ⟨w.heap.size + 1 + 1, 7, none⟩ = some (.int .u8 q7) ∧ W.cell? ⟨w.heap.size + 1 + 1, a, none⟩ = some (.int .u8 xa) ∧ W.cell? ⟨w.heap.size + 1 + 1, b, none⟩ = some (.int .u8 xb)) 34 (by kernel_rfl) (HALL2 _ (below_drew' (Below.refl _ _))) (fun hHeld => ?_)
                                refine any_take (by kernel_rfl) (i := 0) (oi := _) (v := ?_) rfl rfl (by kernel_rfl) (by kernel_rfl) (by kernel_rfl) (fun _ _ _ h => h) (Or.inl ⟨by rfl, ?_⟩) hHeld ?_
                                rotate_left
                                · intro w' hSw; try dsimp only at hSw
                                  go_simp
                                  try with_reducible rfl
                                try simp only [puts, gets]
                                refine any_take (by kernel_rfl) (i := 1) (oi := _) (v := ?_) rfl rfl (by kernel_rfl) (by kernel_rfl) (by kernel_rfl) (fun _ _ _ h => h) (Or.inl ⟨by rfl, ?_⟩) hHeld ?_
                                rotate_left
                                · intro w' hSw; try dsimp only at hSw
                                  go_simp
                                  try with_reducible rfl
                                try simp only [puts, gets]
                                refine any_take (by kernel_rfl) (i := 2) (oi := _) (v := ?_) rfl rfl (by kernel_rfl) (by kernel_rfl) (by kernel_rfl) (fun _ _ _ h => h) (Or.inl ⟨by rfl, ?_⟩) hHeld ?_
                                rotate_left
                                · intro w' hSw; try dsimp only at hSw
                                  go_simp
                                  try with_reducible rfl
                                try simp only [puts, gets]
                                refine any_take (by kernel_rfl) (i := 3) (oi := _) (v := ?_) rfl rfl (by kernel_rfl) (by kernel_rfl) (by kernel_rfl) (fun _ _ _ h => h) (Or.inl ⟨by rfl, ?_⟩) hHeld ?_
                                rotate_left
                                · intro w' hSw; try dsimp only at hSw
                                  go_simp
                                  try with_reducible rfl
                                try simp only [puts, gets]
                                refine any_take (by kernel_rfl) (i := 4) (oi := _) (v := ?_) rfl rfl (by kernel_rfl) (by kernel_rfl) (by kernel_rfl) (fun _ _ _ h => h) (Or.inl ⟨by rfl, ?_⟩) hHeld ?_
                                rotate_left
                                · intro w' hSw; try dsimp only at hSw
                                  go_simp
                                  try with_reducible rfl
                                try simp only [puts, gets]
                                refine any_take (by kernel_rfl) (i := 5) (oi := _) (v := ?_) rfl rfl (by kernel_rfl) (by kernel_rfl) (by kernel_rfl) (fun _ _ _ h => h) (Or.inl ⟨by rfl, ?_⟩) hHeld ?_
                                rotate_left
                                · intro w' hSw; try dsimp only at hSw
                                  go_simp
                                  try with_reducible rfl
                                try simp only [puts, gets]
                                refine any_take (by kernel_rfl) (i := 6) (oi := _) (v := ?_) rfl rfl (by kernel_rfl) (by kernel_rfl) (by kernel_rfl) (fun _ _ _ h => h) (Or.inl ⟨by rfl, ?_⟩) hHeld ?_
                                rotate_left
                                · intro w' hSw; try dsimp only at hSw
                                  go_simp
                                  try with_reducible rfl
                                try simp only [puts, gets]
                                refine any_take (by kernel_rfl) (i := 7) (oi := _) (v := ?_) rfl rfl (by kernel_rfl) (by kernel_rfl) (by kernel_rfl) (fun _ _ _ h => h) (Or.inl ⟨by rfl, ?_⟩) hHeld ?_
                                rotate_left
                                · intro w' hSw; try dsimp only at hSw
                                  go_simp
                                  try with_reducible rfl
                                try simp only [puts, gets]
                                refine any_take (by kernel_rfl) (i := 8) (oi := _) (v := ?_) rfl rfl (by kernel_rfl) (by kernel_rfl) (by kernel_rfl) (fun _ _ _ h => h) (Or.inl ⟨by rfl, ?_⟩) hHeld ?_
                                rotate_left
                                · intro w' hSw; try dsimp only at hSw
                                  go_simp
                                  try with_reducible rfl
                                try simp only [puts, gets]
                                refine any_take (by kernel_rfl) (i := 9) (oi := _) (v := ?_) rfl rfl (by kernel_rfl) (by kernel_rfl) (by kernel_rfl) (fun _ _ _ h => h) (Or.inl ⟨by rfl, ?_⟩) hHeld ?_
                                rotate_left
                                · intro w' hSw; try dsimp only at hSw
                                  go_simp
                                  try with_reducible rfl
                                try simp only [puts, gets]
                                refine any_take (by kernel_rfl) (i := 10) (oi := _) (v := ?_) rfl rfl (by kernel_rfl) (by kernel_rfl) (by kernel_rfl) (fun _ _ _ h => h) (Or.inl ⟨by rfl, ?_⟩) hHeld ?_
                                rotate_left
                                · intro w' hSw; try dsimp only at hSw
                                  go_simp
                                  try with_reducible rfl
                                try simp only [puts, gets]
                                refine any_take (by kernel_rfl) (i := 11) (oi := _) (v := ?_) rfl rfl (by kernel_rfl) (by kernel_rfl) (by kernel_rfl) (fun _ _ _ h => h) (Or.inl ⟨by rfl, ?_⟩) hHeld ?_
                                rotate_left
                                · intro w' hSw; try dsimp only at hSw
                                  go_simp
                                  try with_reducible rfl
                                try simp only [puts, gets]
                                refine any_take (by kernel_rfl) (i := 12) (oi := _) (v := ?_) rfl rfl (by kernel_rfl) (by kernel_rfl) (by kernel_rfl) (fun _ _ _ h => h) (Or.inl ⟨by rfl, ?_⟩) hHeld ?_
                                rotate_left
                                · intro w' hSw; try dsimp only at hSw
                                  go_simp
                                  try with_reducible rfl
                                try simp only [puts, gets]
                                refine any_take (by kernel_rfl) (i := 13) (oi := _) (v := ?_) rfl rfl (by kernel_rfl) (by kernel_rfl) (by kernel_rfl) (fun _ _ _ h => h) (Or.inl ⟨by rfl, ?_⟩) hHeld ?_
                                rotate_left
                                · intro w' hSw; try dsimp only at hSw
                                  go_simp
                                  try with_reducible rfl
                                try simp only [puts, gets]
                                refine any_take (by kernel_rfl) (i := 14) (oi := _) (v := ?_) rfl rfl (by kernel_rfl) (by kernel_rfl) (by kernel_rfl) (fun _ _ _ h => h) (Or.inl ⟨by rfl, ?_⟩) hHeld ?_
                                rotate_left
                                · intro w' hSw; try dsimp only at hSw
                                  go_simp
                                  try with_reducible rfl
                                try simp only [puts, gets]
                                refine any_take (by kernel_rfl) (i := 15) (oi := _) (v := ?_) rfl rfl (by kernel_rfl) (by kernel_rfl) (by kernel_rfl) (fun _ _ _ h => h) (Or.inl ⟨by rfl, ?_⟩) hHeld ?_
                                rotate_left
                                · intro w' hSw; try dsimp only at hSw
                                  go_simp
                                  try with_reducible rfl
                                try simp only [puts, gets]
                                refine any_take (by kernel_rfl) (i := 16) (oi := _) (v := ?_) rfl rfl (by kernel_rfl) (by kernel_rfl) (by kernel_rfl) (fun _ _ _ h => h) (Or.inl ⟨by rfl, ?_⟩) hHeld ?_
                                rotate_left
                                · intro w' hSw; try dsimp only at hSw
                                  go_simp
                                  try with_reducible rfl
                                try simp only [puts, gets]
                                refine any_take (by kernel_rfl) (i := 17) (oi := _) (v := ?_) rfl rfl (by kernel_rfl) (by kernel_rfl) (by kernel_rfl) (fun _ _ _ h => h) (Or.inl ⟨by rfl, ?_⟩) hHeld ?_
                                rotate_left
                                · intro w' hSw; try dsimp only at hSw
                                  go_simp
                                  try with_reducible rfl
                                try simp only [puts, gets]
                                refine any_take (by kernel_rfl) (i := 18) (oi := _) (v := ?_) rfl rfl (by kernel_rfl) (by kernel_rfl) (by kernel_rfl) (fun _ _ _ h => h) (Or.inl ⟨by rfl, ?_⟩) hHeld ?_
                                rotate_left
                                · intro w' hSw; try dsimp only at hSw
                                  go_simp
                                  try with_reducible rfl
                                try simp only [puts, gets]
                                refine any_take (by kernel_rfl) (i := 19) (oi := _) (v := ?_) rfl rfl (by kernel_rfl) (by kernel_rfl) (by kernel_rfl) (fun _ _ _ h => h) (Or.inl ⟨by rfl, ?_⟩) hHeld ?_
                                rotate_left
                                · intro w' hSw; try dsimp only at hSw
                                  go_simp
                                  try with_reducible rfl
                                try simp only [puts, gets]
                                refine any_take (by kernel_rfl) (i := 20) (oi := _) (v := ?_) rfl rfl (by kernel_rfl) (by kernel_rfl) (by kernel_rfl) (fun _ _ _ h => h) (Or.inl ⟨by rfl, ?_⟩) hHeld ?_
                                rotate_left
                                · intro w' hSw; try dsimp only at hSw
                                  go_simp
                                  try with_reducible rfl
                                try simp only [puts, gets]
                                refine any_take (by kernel_rfl) (i := 21) (oi := _) (v := ?_) rfl rfl (by kernel_rfl) (by kernel_rfl) (by kernel_rfl) (fun _ _ _ h => h) (Or.inl ⟨by rfl, ?_⟩) hHeld ?_
                                rotate_left
                                · intro w' hSw; try dsimp only at hSw
                                  go_simp
                                  try with_reducible rfl
                                try simp only [puts, gets]
                                refine any_take (by kernel_rfl) (i := 22) (oi := _) (v := undef) rfl rfl (by kernel_rfl) (by kernel_rfl) (by kernel_rfl) (fun _ _ _ h => h) (Or.inr ⟨by rfl, rfl⟩) hHeld ?_
                                try simp only [puts, gets]
                                refine any_take (by kernel_rfl) (i := 23) (oi := _) (v := undef) rfl rfl (by kernel_rfl) (by kernel_rfl) (by kernel_rfl) (fun _ _ _ h => h) (Or.inr ⟨by rfl, rfl⟩) hHeld ?_
                                try simp only [puts, gets]
                                refine any_take (by kernel_rfl) (i := 24) (oi := _) (v := undef) rfl rfl (by kernel_rfl) (by kernel_rfl) (by kernel_rfl) (fun _ _ _ h => h) (Or.inr ⟨by rfl, rfl⟩) hHeld ?_
                                try simp only [puts, gets]
                                refine any_take (by kernel_rfl) (i := 25) (oi := _) (v := undef) rfl rfl (by kernel_rfl) (by kernel_rfl) (by kernel_rfl) (fun _ _ _ h => h) (Or.inr ⟨by rfl, rfl⟩) hHeld ?_
                                try simp only [puts, gets]
                                refine any_take (by kernel_rfl) (i := 26) (oi := _) (v := undef) rfl rfl (by kernel_rfl) (by kernel_rfl) (by kernel_rfl) (fun _ _ _ h => h) (Or.inr ⟨by rfl, rfl⟩) hHeld ?_
                                try simp only [puts, gets]
                                refine any_take (by kernel_rfl) (i := 27) (oi := _) (v := undef) rfl rfl (by kernel_rfl) (by kernel_rfl) (by kernel_rfl) (fun _ _ _ h => h) (Or.inr ⟨by rfl, rfl⟩) hHeld ?_
                                try simp only [puts, gets]
                                refine any_take (by kernel_rfl) (i := 28) (oi := _) (v := undef) rfl rfl (by kernel_rfl) (by kernel_rfl) (by kernel_rfl) (fun _ _ _ h => h) (Or.inr ⟨by rfl, rfl⟩) hHeld ?_
                                try simp only [puts, gets]
                                refine any_take (by kernel_rfl) (i := 29) (oi := _) (v := undef) rfl rfl (by kernel_rfl) (by kernel_rfl) (by kernel_rfl) (fun _ _ _ h => h) (Or.inr ⟨by rfl, rfl⟩) hHeld ?_
                                try simp only [puts, gets]
                                refine any_take (by kernel_rfl) (i := 30) (oi := _) (v := undef) rfl rfl (by kernel_rfl) (by kernel_rfl) (by kernel_rfl) (fun _ _ _ h => h) (Or.inr ⟨by rfl, rfl⟩) hHeld ?_
                                try simp only [puts, gets]
                                refine any_take (by kernel_rfl) (i := 31) (oi := _) (v := undef) rfl rfl (by kernel_rfl) (by kernel_rfl) (by kernel_rfl) (fun _ _ _ h => h) (Or.inr ⟨by rfl, rfl⟩) hHeld ?_
                                try simp only [puts, gets]
                                refine any_take (by kernel_rfl) (i := 32) (oi := _) (v := undef) rfl rfl (by kernel_rfl) (by kernel_rfl) (by kernel_rfl) (fun _ _ _ h => h) (Or.inr ⟨by rfl, rfl⟩) hHeld ?_
                                try simp only [puts, gets]
                                refine any_take (by kernel_rfl) (i := 33) (oi := _) (v := ?_) rfl rfl (by kernel_rfl) (by kernel_rfl) (by kernel_rfl) (fun _ _ _ h => h) (Or.inl ⟨by rfl, ?_⟩) hHeld ?_
                                rotate_left
                                · intro w' hSw; try dsimp only at hSw
                                  go_simp
                                  try with_reducible rfl
                                try simp only [puts, gets]
                                refine any_done (by kernel_rfl) ?_ _
                                refine NoPanic.normal ?_
                                go_wp2
                                go_meet
                                case rel => exact ⟨by rw [HV.out]; rfl, below_drew' (Below.refl _ _)⟩
                        case rest =>
                          obtain ⟨rfl, bD⟩ := hcut
                          cases hok : okp L.elems.length (ordL L) a b
                          · have HF := Lib.hid (check_order HAR.out HDN.out (good_pair hlt hltb hok))
                            clear hok
                            replace hA := hA.keep bD
                            replace hZo := hZo.keep bD
                            replace bwo := below_trans bwo bD
                            have r0 := hA.cell (a := 0) rfl
                            have r1 := hA.cell (a := 1) rfl
                            have r2 := hA.cell (a := 2) rfl
                            have r3 := hA.cell (a := 3) rfl
                            have r4 := hA.cell (a := 4) rfl
                            have r5 := hA.cell (a := 5) rfl
                            have r6 := hA.cell (a := 6) rfl
                            have r7 := hA.cell (a := 7) rfl
                            have z0 := hZo.cell (a := 0) rfl
                            have z1 := hZo.cell (a := 1) rfl
                            have z2 := hZo.cell (a := 2) rfl
                            have z3 := hZo.cell (a := 3) rfl
                            have z4 := hZo.cell (a := 4) rfl
                            have z5 := hZo.cell (a := 5) rfl
                            have z6 := hZo.cell (a := 6) rfl
                            have z7 := hZo.cell (a := 7) rfl
                            have hf := fun a => hZo.free (a := a)
                            go_wp2
                            refine bodyPost_ret (v := .tuple #[.agg #[.int .u8 q0, .int .u8 q1, .int .u8 q2, .int .u8 q3, .int .u8 q4, .int .u8 q5, .int .u8 q6, .int .u8 q7], .int .i64 30]) (by simp [results, Tryd.results30, go_sem, z0, z1, z2, z3, z4, z5, z6, z7]) rfl ?_
                            exact ⟨[q0, q1, q2, q3, q4, q5, q6, q7], by rw [HF.out]; rfl, rfl, fun h => absurd (HF.out.symm.trans h) (by decide), ((((((((bwo.setCell (p := ⟨w.heap.size + 1, 0, none⟩) (by simp) _).setCell (p := ⟨w.heap.size + 1, 1, none⟩) (by simp) _).setCell (p := ⟨w.heap.size + 1, 2, none⟩) (by simp) _).setCell (p := ⟨w.heap.size + 1, 3, none⟩) (by simp) _).setCell (p := ⟨w.heap.size + 1, 4, none⟩) (by simp) _).setCell (p := ⟨w.heap.size + 1, 5, none⟩) (by simp) _).setCell (p := ⟨w.heap.size + 1, 6, none⟩) (by simp) _).setCell (p := ⟨w.heap.size + 1, 7, none⟩) (by simp) _)⟩
                          · have HN := Lib.hid (show ∀ j, j < b + 1 → okp L.elems.length (ordL L) a j = true from fun j hj => by
                              rcases Nat.lt_or_ge j b with h | h
                              · exact HOB.out j h
                              · obtain rfl : j = b := by omega
                                exact hok)
                            clear hok
                            go_wp2
                            go_roundw
                            case rel => exact ⟨b + 1, by omega, by go_num, HN, below_trans bB bD⟩
                            case measure => simp [intOf]; omega
                      · have e : b = L.elems.length := by omega
                        subst e
                        have HN := Lib.hid (show ∀ i, i < a + 1 → ∀ j, j < L.elems.length → okp L.elems.length (ordL L) i j = true from fun i hi j hj => by
                          rcases Nat.lt_or_ge i a with h | h
                          · exact HOA.out i h j hj
                          · obtain rfl : i = a := by omega
                            exact HOB.out j hj)
                        have hd2 : decide (L.elems.length < L.elems.length) = false := decide_eq_false hltb
                        go_wp2
                        go_roundw
                        case rel => exact ⟨a + 1, by omega, by go_num, HN, bB⟩
                        case measure => simp [intOf]; omega
                  · have e : a = L.elems.length := by omega
                    subst e
                    have HF := Lib.hid (check_ok HAR.out HDN.out (good_all (by rw [HM.out]; have := HM0.out; omega) HOA.out))
                    have hd1 : decide (L.elems.length < L.elems.length) = false := decide_eq_false hlt
                    replace hA := hA.keep bA
                    replace hZo := hZo.keep bA
                    replace bwo := below_trans bwo bA
                    have r0 := hA.cell (a := 0) rfl
                    have r1 := hA.cell (a := 1) rfl
                    have r2 := hA.cell (a := 2) rfl
                    have r3 := hA.cell (a := 3) rfl
                    have r4 := hA.cell (a := 4) rfl
                    have r5 := hA.cell (a := 5) rfl
                    have r6 := hA.cell (a := 6) rfl
                    have r7 := hA.cell (a := 7) rfl
                    have z0 := hZo.cell (a := 0) rfl
                    have z1 := hZo.cell (a := 1) rfl
                    have z2 := hZo.cell (a := 2) rfl
                    have z3 := hZo.cell (a := 3) rfl
                    have z4 := hZo.cell (a := 4) rfl
                    have z5 := hZo.cell (a := 5) rfl
                    have z6 := hZo.cell (a := 6) rfl
                    have z7 := hZo.cell (a := 7) rfl
                    have hf := fun a => hZo.free (a := a)
                    go_wp2
                    refine bodyPost_ret (v := .tuple #[.agg #[.int .u8 q0, .int .u8 q1, .int .u8 q2, .int .u8 q3, .int .u8 q4, .int .u8 q5, .int .u8 q6, .int .u8 q7], .int .i64 0]) (by simp [results, Tryd.results30, go_sem, z0, z1, z2, z3, z4, z5, z6, z7]) rfl ?_
                    exact ⟨[q0, q1, q2, q3, q4, q5, q6, q7], by rw [HF.out]; rfl, rfl, fun _ => HQ.out, ((((((((bwo.setCell (p := ⟨w.heap.size + 1, 0, none⟩) (by simp) _).setCell (p := ⟨w.heap.size + 1, 1, none⟩) (by simp) _).setCell (p := ⟨w.heap.size + 1, 2, none⟩) (by simp) _).setCell (p := ⟨w.heap.size + 1, 3, none⟩) (by simp) _).setCell (p := ⟨w.heap.size + 1, 4, none⟩) (by simp) _).setCell (p := ⟨w.heap.size + 1, 5, none⟩) (by simp) _).setCell (p := ⟨w.heap.size + 1, 6, none⟩) (by simp) _).setCell (p := ⟨w.heap.size + 1, 7, none⟩) (by simp) _)⟩
end Go.Proofs.YtkjlflmcojmfgaaDoor

