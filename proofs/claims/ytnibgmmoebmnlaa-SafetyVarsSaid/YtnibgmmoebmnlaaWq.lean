/- Words for the laws' fixed examples. -/
import Derived.Test.YtnibgmmoebmnlaaWp
namespace Go.Proofs.Ytnibgmmoebmnlaa
open Go.RowKit
def tX : Tm := mkVar (nm 88)
def tY : Tm := mkVar (nm 89)
theorem ord1 (v a b : Value) : orderR (mkRule v [mkLit 2 0 a [tX], mkLit 1 0 b [tX]]) [] = ([1, 0], 0) := by kernel_rfl
theorem ord2 (v a : Value) : orderR (mkRule v [mkLit 2 0 a [tX]]) [nm 88] = ([0], 0) := by kernel_rfl
theorem ord3 (v a b c : Value) : orderR (mkRule v [mkLit 5 3 a [tX, tY], mkLit 1 0 b [tX], mkLit 5 1 c [tY, tX]]) [] = ([1, 2, 0], 0) := by kernel_rfl
theorem ord4 (v a b : Value) : orderR (mkRule v [mkLit 5 1 a [tX, tY], mkLit 5 1 b [tY, mkNum 3]]) [] = ([1, 0], 0) := by kernel_rfl
theorem ord5 (v a : Value) : orderR (mkRule v [mkLit 5 1 a [tX, tX]]) [] = ([], 80) := by kernel_rfl
def litYXY (a : Value) : Lt := ⟨1, noName, 0, a, [tY, tX, tY], nm 76, noName, 0, 0, 0⟩
theorem ord6 (a : Value) : ordV [litYXY a] = [nm 89, nm 88] ∧ latV [litYXY a] = [nm 76] := ⟨by kernel_rfl, by kernel_rfl⟩
def badRule (v a x : Value) : Rl := ⟨noName, 0, v, [tY], 0, noName, noName, 0, a, [mkLit 1 0 x [tX]], 7⟩
theorem ord7 (u v a x : Value) : chk [mkRule u [mkLit 1 0 x [tX]], badRule v a x] = [(80, 7)] := by kernel_rfl
theorem ord8 (a b : Value) : evaluable (ofList []) [mkLit 2 0 a [tX], mkLit 1 0 b [tX]] [0, 1] = false := by kernel_rfl
def TermAt (w : World) (n : Nat) (x : UInt8) : Prop := w.cell? ⟨n, 0, none⟩ = some (.string ⟨#[x]⟩) ∧ w.cell? ⟨n, 1, none⟩ = some (.int .i64 0) ∧ w.cell? ⟨n, 2, none⟩ = some (.int .i64 0) ∧ w.cell? ⟨n, 3, none⟩ = some (.string ⟨#[]⟩)
theorem TermAt.keep {w w' : World} {n : Nat} {x : UInt8} (h : TermAt w n x) (hb : Below w.heap.size w w') : TermAt w' n x :=
  ⟨cell_keep hb h.1, cell_keep hb h.2.1, cell_keep hb h.2.2.1, cell_keep hb h.2.2.2⟩
def LitAt (w : World) (n : Nat) (k o : Int) (v : Value) : Prop := w.cell? ⟨n, 0, none⟩ = some (.int .i64 k) ∧ w.cell? ⟨n, 1, none⟩ = some (.string ⟨#[112]⟩) ∧ w.cell? ⟨n, 2, none⟩ = some (.int .i64 0) ∧ w.cell? ⟨n, 3, none⟩ = some v ∧ w.cell? ⟨n, 4, none⟩ = some (.string ⟨#[]⟩)
  ∧ w.cell? ⟨n, 5, none⟩ = some (.string ⟨#[]⟩) ∧ w.cell? ⟨n, 6, none⟩ = some (.int .i64 0) ∧ w.cell? ⟨n, 7, none⟩ = some (.int .i64 o) ∧ w.cell? ⟨n, 8, none⟩ = some (.int .i64 0)
theorem LitAt.keep {w w' : World} {n : Nat} {k o : Int} {v : Value} (h : LitAt w n k o v) (hb : Below w.heap.size w w') : LitAt w' n k o v :=
  ⟨cell_keep hb h.1, cell_keep hb h.2.1, cell_keep hb h.2.2.1, cell_keep hb h.2.2.2.1, cell_keep hb h.2.2.2.2.1, cell_keep hb h.2.2.2.2.2.1, cell_keep hb h.2.2.2.2.2.2.1, cell_keep hb h.2.2.2.2.2.2.2.1, cell_keep hb h.2.2.2.2.2.2.2.2⟩
theorem termAt_new {w : World} {x : UInt8} : TermAt (w.alloc (.cells #[.string ⟨#[x]⟩, .int .i64 0, .int .i64 0, .string ⟨#[]⟩] 69)) w.heap.size x :=
  ⟨boxed (j := 0) rfl (Below.refl _ _), boxed (j := 1) rfl (Below.refl _ _), boxed (j := 2) rfl (Below.refl _ _), boxed (j := 3) rfl (Below.refl _ _)⟩
theorem litAt_new {w : World} {k o : Int} {v : Value} : LitAt (w.alloc (.cells #[.int .i64 k, .string ⟨#[112]⟩, .int .i64 0, v, .string ⟨#[]⟩, .string ⟨#[]⟩, .int .i64 0, .int .i64 o, .int .i64 0] 58)) w.heap.size k o v :=
  ⟨boxed (j := 0) rfl (Below.refl _ _), boxed (j := 1) rfl (Below.refl _ _), boxed (j := 2) rfl (Below.refl _ _), boxed (j := 3) rfl (Below.refl _ _), boxed (j := 4) rfl (Below.refl _ _), boxed (j := 5) rfl (Below.refl _ _), boxed (j := 6) rfl (Below.refl _ _), boxed (j := 7) rfl (Below.refl _ _), boxed (j := 8) rfl (Below.refl _ _)⟩
theorem terms_new (w : World) (ts : List Tm) (hm : ts.length ≤ 9223372036854775807) : IsTerms (w.alloc (.cells (ts.flatMap encT).toArray 69)) (.slice (some ⟨w.heap.size, 0, none⟩) ts.length ts.length) ts := rows_new (enc := encT) (k := 4) w ts 69 (fun _ _ => rfl) hm _
theorem ints_new (w : World) (l : List Int) (hm : l.length ≤ 9223372036854775807) : IsInts (w.alloc (.cells (l.flatMap encI).toArray 3)) (.slice (some ⟨w.heap.size, 0, none⟩) l.length l.length) l := rows_new (enc := encI) (k := 1) w l 3 (fun _ _ => rfl) hm _
theorem names_new (w : World) (l : List Nm) (hm : l.length ≤ 9223372036854775807) : IsNames (w.alloc (.cells (l.flatMap encS).toArray 9)) (.slice (some ⟨w.heap.size, 0, none⟩) l.length l.length) l := rows_new (enc := encS) (k := 1) w l 9 (fun _ _ => rfl) hm _
theorem lits_new (w : World) (l : List Lt) (hm : l.length ≤ 9223372036854775807) (hok : ∀ x ∈ l, LitOk w x) : IsLits (w.alloc (.cells (l.flatMap encL).toArray 58)) (.slice (some ⟨w.heap.size, 0, none⟩) l.length l.length) l :=
  ⟨rows_new (enc := encL) (k := 9) w l 58 (fun _ _ => rfl) hm _, fun x hx => (hok x hx).keep (keeps_below ((Below.refl _ _).alloc (Nat.le_refl _) _))⟩
theorem below_new (w : World) (o : Obj) : Below w.heap.size w (w.alloc o) := (Below.refl _ _).alloc (Nat.le_refl _) _
theorem ints_new' (w : World) (n : Nat) (l : List Int) (hn : n = w.heap.size) (hm : l.length ≤ 9223372036854775807) : IsInts (w.alloc (.cells (l.flatMap encI).toArray 3)) (.slice (some ⟨n, 0, none⟩) l.length l.length) l := hn ▸ ints_new w l hm
theorem names_new' (w : World) (n : Nat) (l : List Nm) (hn : n = w.heap.size) (hm : l.length ≤ 9223372036854775807) : IsNames (w.alloc (.cells (l.flatMap encS).toArray 9)) (.slice (some ⟨n, 0, none⟩) l.length l.length) l := hn ▸ names_new w l hm
theorem lits_new' (w : World) (n : Nat) (l : List Lt) (hn : n = w.heap.size) (hm : l.length ≤ 9223372036854775807) (hok : ∀ x ∈ l, LitOk w x) : IsLits (w.alloc (.cells (l.flatMap encL).toArray 58)) (.slice (some ⟨n, 0, none⟩) l.length l.length) l := hn ▸ lits_new w l hm hok
theorem ok1 {w : World} {a : Lt} (ha : LitOk w a) : ∀ x ∈ [a], LitOk w x := by intro x hx; simp at hx; subst hx; exact ha
theorem ok2 {w : World} {a b : Lt} (ha : LitOk w a) (hb : LitOk w b) : ∀ x ∈ [a, b], LitOk w x := by
  intro x hx; simp at hx; rcases hx with rfl | rfl
  · exact ha
  · exact hb
theorem ok3 {w : World} {a b c : Lt} (ha : LitOk w a) (hb : LitOk w b) (hc : LitOk w c) : ∀ x ∈ [a, b, c], LitOk w x := by
  intro x hx; simp at hx; rcases hx with rfl | rfl | rfl
  · exact ha
  · exact hb
  · exact hc
/-- order's answer where it is the one wanted. -/
theorem order_yes {vw : Value} {want : List Int} {vb : Value} {bound : List Nm} {vl : Value} {ls : List Lt} {w : World} (hw : IsInts w vw want) (hb : IsNames w vb bound) (hl : IsLits w vl ls) (hf : Fits (mkRule vl ls)) (hbl : bound.length ≤ 1000) (h : orderR (mkRule vl ls) bound = (want, 0)) :
    Calls Try.prog 34 #[vw, vb, vl] w fun e w' => e = .returned (.bool true) ∧ Below w.heap.size w w' := by
  have := order_any vw want vb bound vl ls w hw hb hl hf hbl
  rwa [decide_eq_true h] at this
theorem first_order (w : World) (na nb : Nat) (ha : LitOk w (mkLit 1 0 (.slice (some ⟨na, 0, none⟩) 1 1) [tX])) (hb : LitOk w (mkLit 2 0 (.slice (some ⟨nb, 0, none⟩) 1 1) [tX])) :
    Calls Try.prog 34 #[.slice (some ⟨w.heap.size, 0, none⟩) 2 2, .slice none 0 0, .slice (some ⟨w.heap.size + 1, 0, none⟩) 2 2]
      ((w.alloc (.cells ([1, 0].flatMap encI).toArray 3)).alloc (.cells ([mkLit 2 0 (.slice (some ⟨nb, 0, none⟩) 1 1) [tX], mkLit 1 0 (.slice (some ⟨na, 0, none⟩) 1 1) [tX]].flatMap encL).toArray 58)) fun e w' => e = .returned (.bool true) ∧ Below w.heap.size w w' := by
  have m1 := below_new w (.cells ([1, 0].flatMap encI).toArray 3)
  have i1 := ints_new w [1, 0] (by decide)
  have L1 := lits_new' (w.alloc (.cells ([1, 0].flatMap encI).toArray 3)) (w.heap.size + 1) [mkLit 2 0 (.slice (some ⟨nb, 0, none⟩) 1 1) [tX], mkLit 1 0 (.slice (some ⟨na, 0, none⟩) 1 1) [tX]] (by simp) (by simp) (ok2 (hb.keep (keeps_below m1)) (ha.keep (keeps_below m1)))
  have m2 := below_new (w.alloc (.cells ([1, 0].flatMap encI).toArray 3)) (.cells ([mkLit 2 0 (.slice (some ⟨nb, 0, none⟩) 1 1) [tX], mkLit 1 0 (.slice (some ⟨na, 0, none⟩) 1 1) [tX]].flatMap encL).toArray 58)
  refine (order_yes (i1.keep (keeps_below m2)) (nil_names _) L1 ⟨by simp [mkRule], by simp [mkRule, mkLit]⟩ (by simp) (ord1 _ _ _)).mono ?_
  rintro e w' ⟨rfl, b⟩
  exact ⟨rfl, below_trans (below_trans m1 m2) b⟩
theorem second_order (w : World) (nb : Nat) (hb : LitOk w (mkLit 2 0 (.slice (some ⟨nb, 0, none⟩) 1 1) [tX])) :
    Calls Try.prog 34 #[.slice (some ⟨w.heap.size, 0, none⟩) 1 1, .slice (some ⟨w.heap.size + 1, 0, none⟩) 1 1, .slice (some ⟨w.heap.size + 1 + 1, 0, none⟩) 1 1]
      (((w.alloc (.cells ([0].flatMap encI).toArray 3)).alloc (.cells ([nm 88].flatMap encS).toArray 9)).alloc (.cells ([mkLit 2 0 (.slice (some ⟨nb, 0, none⟩) 1 1) [tX]].flatMap encL).toArray 58)) fun e w' => e = .returned (.bool true) ∧ Below w.heap.size w w' := by
  have m1 := below_new w (.cells ([0].flatMap encI).toArray 3)
  have i1 := ints_new w [0] (by decide)
  have m2 := below_new (w.alloc (.cells ([0].flatMap encI).toArray 3)) (.cells ([nm 88].flatMap encS).toArray 9)
  have n1 := names_new' (w.alloc (.cells ([0].flatMap encI).toArray 3)) (w.heap.size + 1) [nm 88] (by simp) (by simp)
  have m12 := below_trans m1 m2
  have L1 := lits_new' ((w.alloc (.cells ([0].flatMap encI).toArray 3)).alloc (.cells ([nm 88].flatMap encS).toArray 9)) (w.heap.size + 1 + 1) [mkLit 2 0 (.slice (some ⟨nb, 0, none⟩) 1 1) [tX]] (by simp) (by simp) (ok1 (hb.keep (keeps_below m12)))
  have m3 := below_new ((w.alloc (.cells ([0].flatMap encI).toArray 3)).alloc (.cells ([nm 88].flatMap encS).toArray 9)) (.cells ([mkLit 2 0 (.slice (some ⟨nb, 0, none⟩) 1 1) [tX]].flatMap encL).toArray 58)
  refine (order_yes (i1.keep (keeps_below (below_trans m2 m3))) (n1.keep (keeps_below m3)) L1 ⟨by simp [mkRule], by simp [mkRule, mkLit]⟩ (by simp) (ord2 _ _)).mono ?_
  rintro e w' ⟨rfl, b⟩
  exact ⟨rfl, below_trans (below_trans m12 m3) b⟩
theorem term_lt {w : World} {n : Nat} {x : UInt8} (h : TermAt w n x) : n < w.heap.size := cell_lt h.1
theorem lit_lt {w : World} {n : Nat} {k o : Int} {v : Value} (h : LitAt w n k o v) : n < w.heap.size := cell_lt h.1
theorem terms_new' (w : World) (n : Nat) (l : List Tm) (hn : n = w.heap.size) (hm : l.length ≤ 9223372036854775807) : IsTerms (w.alloc (.cells (l.flatMap encT).toArray 69)) (.slice (some ⟨n, 0, none⟩) l.length l.length) l := hn ▸ terms_new w l hm
theorem terms2 (w : World) (n : Nat) (x y : UInt8) (hn : n = w.heap.size) : IsTerms (w.alloc (.cells #[.string ⟨#[x]⟩, .int .i64 0, .int .i64 0, .string ⟨#[]⟩, .string ⟨#[y]⟩, .int .i64 0, .int .i64 0, .string ⟨#[]⟩] 69)) (.slice (some ⟨n, 0, none⟩) 2 2) [mkVar (nm x), mkVar (nm y)] := terms_new' w n [mkVar (nm x), mkVar (nm y)] hn (by simp)
theorem lits3_new {wA wB wC W : World} {A B C : Lt} (hA : LitOk wA A) (hB : LitOk wB B) (hC : LitOk wC C) (bA : Below wA.heap.size wA W) (bB : Below wB.heap.size wB W) (bC : Below wC.heap.size wC W) (n : Nat) (hn : n = W.heap.size) :
    IsLits (W.alloc (.cells ([A, B, C].flatMap encL).toArray 58)) (.slice (some ⟨n, 0, none⟩) 3 3) [A, B, C] :=
  lits_new' W n [A, B, C] hn (by simp) (ok3 (hA.keep (keeps_below bA)) (hB.keep (keeps_below bB)) (hC.keep (keeps_below bC)))
theorem lits2_new {wA wC W : World} {A C : Lt} (hA : LitOk wA A) (hC : LitOk wC C) (bA : Below wA.heap.size wA W) (bC : Below wC.heap.size wC W) (n : Nat) (hn : n = W.heap.size) :
    IsLits (W.alloc (.cells ([A, C].flatMap encL).toArray 58)) (.slice (some ⟨n, 0, none⟩) 2 2) [A, C] :=
  lits_new' W n [A, C] hn (by simp) (ok2 (hA.keep (keeps_below bA)) (hC.keep (keeps_below bC)))
theorem lits2_yn {wA wC W : World} {i j : Nat} (hA : LitOk wA (mkLit 5 1 (.slice (some ⟨i, 0, none⟩) 2 2) [mkVar (nm 88), mkVar (nm 89)])) (hC : LitOk wC (mkLit 5 1 (.slice (some ⟨j, 0, none⟩) 2 2) [mkVar (nm 89), mkNum 3]))
    (bA : Below wA.heap.size wA W) (bC : Below wC.heap.size wC W) (n : Nat) (hn : n = W.heap.size) :
    IsLits (W.alloc (.cells ([mkLit 5 1 (.slice (some ⟨i, 0, none⟩) 2 2) [mkVar (nm 88), mkVar (nm 89)], mkLit 5 1 (.slice (some ⟨j, 0, none⟩) 2 2) [mkVar (nm 89), mkNum 3]].flatMap encL).toArray 58)) (.slice (some ⟨n, 0, none⟩) 2 2)
      [mkLit 5 1 (.slice (some ⟨i, 0, none⟩) 2 2) [mkVar (nm 88), mkVar (nm 89)], mkLit 5 1 (.slice (some ⟨j, 0, none⟩) 2 2) [mkVar (nm 89), mkNum 3]] := lits2_new hA hC bA bC n hn
theorem ints2' (w : World) (n : Nat) (a b : Int) (hn : n = w.heap.size) : IsInts (w.alloc (.cells #[.int .i64 a, .int .i64 b] 3)) (.slice (some ⟨n, 0, none⟩) 2 2) [a, b] := ints_new' w n [a, b] hn (by simp)
theorem ints3' (w : World) (n : Nat) (a b c : Int) (hn : n = w.heap.size) : IsInts (w.alloc (.cells #[.int .i64 a, .int .i64 b, .int .i64 c] 3)) (.slice (some ⟨n, 0, none⟩) 3 3) [a, b, c] := ints_new' w n [a, b, c] hn (by simp)
theorem lits3_x {wA wB wC W : World} {i j na : Nat} (hA : LitOk wA (mkLit 5 3 (.slice (some ⟨i, 0, none⟩) 2 2) [mkVar (nm 88), mkVar (nm 89)])) (hB : LitOk wB (mkLit 1 0 (.slice (some ⟨na, 0, none⟩) 1 1) [tX])) (hC : LitOk wC (mkLit 5 1 (.slice (some ⟨j, 0, none⟩) 2 2) [mkVar (nm 89), mkVar (nm 88)]))
    (bA : Below wA.heap.size wA W) (bB : Below wB.heap.size wB W) (bC : Below wC.heap.size wC W) (n : Nat) (hn : n = W.heap.size) :
    IsLits (W.alloc (.cells #[.int .i64 5, .string ⟨#[112]⟩, .int .i64 0, .slice (some ⟨i, 0, none⟩) 2 2, .string ⟨#[]⟩, .string ⟨#[]⟩, .int .i64 0, .int .i64 3, .int .i64 0, .int .i64 1, .string ⟨#[112]⟩, .int .i64 0, .slice (some ⟨na, 0, none⟩) 1 1, .string ⟨#[]⟩, .string ⟨#[]⟩, .int .i64 0, .int .i64 0, .int .i64 0, .int .i64 5, .string ⟨#[112]⟩, .int .i64 0, .slice (some ⟨j, 0, none⟩) 2 2, .string ⟨#[]⟩, .string ⟨#[]⟩, .int .i64 0, .int .i64 1, .int .i64 0] 58)) (.slice (some ⟨n, 0, none⟩) 3 3) [mkLit 5 3 (.slice (some ⟨i, 0, none⟩) 2 2) [mkVar (nm 88), mkVar (nm 89)], mkLit 1 0 (.slice (some ⟨na, 0, none⟩) 1 1) [tX], mkLit 5 1 (.slice (some ⟨j, 0, none⟩) 2 2) [mkVar (nm 89), mkVar (nm 88)]] := lits3_new hA hB hC bA bB bC n hn
theorem lits2_x {wA wC W : World} {i j : Nat} (hA : LitOk wA (mkLit 5 1 (.slice (some ⟨i, 0, none⟩) 2 2) [mkVar (nm 88), mkVar (nm 89)])) (hC : LitOk wC (mkLit 5 1 (.slice (some ⟨j, 0, none⟩) 2 2) [mkVar (nm 89), mkNum 3]))
    (bA : Below wA.heap.size wA W) (bC : Below wC.heap.size wC W) (n : Nat) (hn : n = W.heap.size) :
    IsLits (W.alloc (.cells #[.int .i64 5, .string ⟨#[112]⟩, .int .i64 0, .slice (some ⟨i, 0, none⟩) 2 2, .string ⟨#[]⟩, .string ⟨#[]⟩, .int .i64 0, .int .i64 1, .int .i64 0, .int .i64 5, .string ⟨#[112]⟩, .int .i64 0, .slice (some ⟨j, 0, none⟩) 2 2, .string ⟨#[]⟩, .string ⟨#[]⟩, .int .i64 0, .int .i64 1, .int .i64 0] 58)) (.slice (some ⟨n, 0, none⟩) 2 2) [mkLit 5 1 (.slice (some ⟨i, 0, none⟩) 2 2) [mkVar (nm 88), mkVar (nm 89)], mkLit 5 1 (.slice (some ⟨j, 0, none⟩) 2 2) [mkVar (nm 89), mkNum 3]] := lits2_new hA hC bA bC n hn
theorem lit2 {x y : UInt8} {op : Int} {v : Value} {w : World} {Q : Ending → World → Prop} (h : IsTerms w v [mkVar (nm x), mkVar (nm y)])
    (k : ∀ w', LitOk w' (mkLit 5 op v [mkVar (nm x), mkVar (nm y)]) → Below w.heap.size w w' → Q (.returned (.agg #[.int .i64 5, .string ⟨#[112]⟩, .int .i64 0, v, .string ⟨#[]⟩, .string ⟨#[]⟩, .int .i64 0, .int .i64 op, .int .i64 0])) w') : Calls Try.prog 33 #[.int .i64 5, .int .i64 op, v] w Q :=
  (lit_any 5 op v _ w h).mono fun e w' ⟨he, h1, h2⟩ => by subst he; exact k w' h1 h2
theorem order3 {i j na : Nat} {vw vl : Value} {w : World} {Q : Ending → World → Prop} (hi : IsInts w vw [1, 2, 0])
    (hl : IsLits w vl [mkLit 5 3 (.slice (some ⟨i, 0, none⟩) 2 2) [mkVar (nm 88), mkVar (nm 89)], mkLit 1 0 (.slice (some ⟨na, 0, none⟩) 1 1) [tX], mkLit 5 1 (.slice (some ⟨j, 0, none⟩) 2 2) [mkVar (nm 89), mkVar (nm 88)]])
    (k : ∀ w', Below w.heap.size w w' → Q (.returned (.bool true)) w') : Calls Try.prog 34 #[vw, .slice none 0 0, vl] w Q :=
  (order_yes hi (nil_names _) hl ⟨by simp [mkRule], by simp [mkRule, mkLit]⟩ (by simp) (ord3 _ _ _ _)).mono fun e w' ⟨he, h2⟩ => by subst he; exact k w' h2
theorem lit_ts {ts : List Tm} {op : Int} {v : Value} {w : World} {Q : Ending → World → Prop} (h : IsTerms w v ts)
    (k : ∀ w', LitOk w' (mkLit 5 op v ts) → Below w.heap.size w w' → Q (.returned (.agg #[.int .i64 5, .string ⟨#[112]⟩, .int .i64 0, v, .string ⟨#[]⟩, .string ⟨#[]⟩, .int .i64 0, .int .i64 op, .int .i64 0])) w') : Calls Try.prog 33 #[.int .i64 5, .int .i64 op, v] w Q :=
  (lit_any 5 op v _ w h).mono fun e w' ⟨he, h1, h2⟩ => by subst he; exact k w' h1 h2
theorem number3 {w : World} {Q : Ending → World → Prop} (k : ∀ w', Below w.heap.size w w' → Q (.returned (.agg #[.string ⟨#[]⟩, .int .i64 1, .int .i64 3, .string ⟨#[]⟩])) w') : Calls Try.prog 35 #[.int .i64 3] w Q :=
  (number_any 3 w).mono fun e w' ⟨he, h2⟩ => by subst he; exact k w' h2
theorem order4 {i j : Nat} {vw vl : Value} {w : World} {Q : Ending → World → Prop} (hi : IsInts w vw [1, 0])
    (hl : IsLits w vl [mkLit 5 1 (.slice (some ⟨i, 0, none⟩) 2 2) [mkVar (nm 88), mkVar (nm 89)], mkLit 5 1 (.slice (some ⟨j, 0, none⟩) 2 2) [mkVar (nm 89), mkNum 3]])
    (k : ∀ w', Below w.heap.size w w' → Q (.returned (.bool true)) w') : Calls Try.prog 34 #[vw, .slice none 0 0, vl] w Q :=
  (order_yes hi (nil_names _) hl ⟨by simp [mkRule], by simp [mkRule, mkLit]⟩ (by simp) (ord4 _ _ _)).mono fun e w' ⟨he, h2⟩ => by subst he; exact k w' h2
theorem termsN (w : World) (n : Nat) (hn : n = w.heap.size) : IsTerms (w.alloc (.cells #[.string ⟨#[89]⟩, .int .i64 0, .int .i64 0, .string ⟨#[]⟩, .string ⟨#[]⟩, .int .i64 1, .int .i64 3, .string ⟨#[]⟩] 69)) (.slice (some ⟨n, 0, none⟩) 2 2) [mkVar (nm 89), mkNum 3] := terms_new' w n [mkVar (nm 89), mkNum 3] hn (by simp)
theorem SK2 {w w' : World} {nx ny : Nat} (h : w.cell? ⟨nx, 0, none⟩ = some (.string ⟨#[88]⟩) ∧ w.cell? ⟨nx, 1, none⟩ = some (.int .i64 0) ∧ w.cell? ⟨nx, 2, none⟩ = some (.int .i64 0) ∧ w.cell? ⟨nx, 3, none⟩ = some (.string ⟨#[]⟩) ∧
      w.cell? ⟨ny, 0, none⟩ = some (.string ⟨#[89]⟩) ∧ w.cell? ⟨ny, 1, none⟩ = some (.int .i64 0) ∧ w.cell? ⟨ny, 2, none⟩ = some (.int .i64 0) ∧ w.cell? ⟨ny, 3, none⟩ = some (.string ⟨#[]⟩)) (hb : Below w.heap.size w w') :
    w'.cell? ⟨nx, 0, none⟩ = some (.string ⟨#[88]⟩) ∧ w'.cell? ⟨nx, 1, none⟩ = some (.int .i64 0) ∧ w'.cell? ⟨nx, 2, none⟩ = some (.int .i64 0) ∧ w'.cell? ⟨nx, 3, none⟩ = some (.string ⟨#[]⟩) ∧
      w'.cell? ⟨ny, 0, none⟩ = some (.string ⟨#[89]⟩) ∧ w'.cell? ⟨ny, 1, none⟩ = some (.int .i64 0) ∧ w'.cell? ⟨ny, 2, none⟩ = some (.int .i64 0) ∧ w'.cell? ⟨ny, 3, none⟩ = some (.string ⟨#[]⟩) := by
  obtain ⟨h0, h1, h2, h3, h4, h5, h6, h7⟩ := h
  exact ⟨cell_keep hb h0, cell_keep hb h1, cell_keep hb h2, cell_keep hb h3, cell_keep hb h4, cell_keep hb h5, cell_keep hb h6, cell_keep hb h7⟩
theorem lits_alloc {w : World} {v : Value} {l : List Lt} {o : Obj} (h : IsLits w v l) : IsLits (w.alloc o) v l := h.keep (keeps_below (below_new w o))
theorem ints_alloc {w : World} {v : Value} {l : List Int} {o : Obj} (h : IsInts w v l) : IsInts (w.alloc o) v l := h.keep (keeps_below (below_new w o))
theorem ints_step {w w' : World} {v : Value} {l : List Int} (hb : Below w.heap.size w w') (h : IsInts w v l) : IsInts w' v l := h.keep (keeps_below hb)
theorem terms_alloc {w : World} {v : Value} {l : List Tm} {o : Obj} (h : IsTerms w v l) : IsTerms (w.alloc o) v l := h.keep (keeps_below (below_new w o))
theorem terms_drew {w : World} {v : Value} {l : List Tm} (h : IsTerms w v l) : IsTerms w.drew v l := h
theorem ints_drew {w : World} {v : Value} {l : List Int} (h : IsInts w v l) : IsInts w.drew v l := h
theorem lits_drew {w : World} {v : Value} {l : List Lt} (h : IsLits w v l) : IsLits w.drew v l := h
theorem terms_step {w w' : World} {v : Value} {l : List Tm} (hb : Below w.heap.size w w') (h : IsTerms w v l) : IsTerms w' v l := h.keep (keeps_below hb)
theorem below_step {a w w' : World} (h : Below w.heap.size w w') (k : Below a.heap.size a w) : Below a.heap.size a w' := below_trans k h
theorem below_alloc' {a w : World} {o : Obj} (k : Below a.heap.size a w) : Below a.heap.size a (w.alloc o) := below_trans k (below_new w o)
theorem below_drew' {a w : World} (k : Below a.heap.size a w) : Below a.heap.size a w.drew := k.drew
theorem SK {w w' : World} {nx ny n3 : Nat} {s : Value} (h : w.cell? ⟨nx, 0, none⟩ = some (.string ⟨#[88]⟩) ∧ w.cell? ⟨nx, 1, none⟩ = some (.int .i64 0) ∧ w.cell? ⟨nx, 2, none⟩ = some (.int .i64 0) ∧ w.cell? ⟨nx, 3, none⟩ = some (.string ⟨#[]⟩) ∧
      w.cell? ⟨ny, 0, none⟩ = some (.string ⟨#[89]⟩) ∧ w.cell? ⟨ny, 1, none⟩ = some (.int .i64 0) ∧ w.cell? ⟨ny, 2, none⟩ = some (.int .i64 0) ∧ w.cell? ⟨ny, 3, none⟩ = some (.string ⟨#[]⟩) ∧
      w.cell? ⟨n3, 0, none⟩ = some (.int .i64 1) ∧ w.cell? ⟨n3, 1, none⟩ = some (.string ⟨#[112]⟩) ∧ w.cell? ⟨n3, 2, none⟩ = some (.int .i64 0) ∧ w.cell? ⟨n3, 3, none⟩ = some s ∧ w.cell? ⟨n3, 4, none⟩ = some (.string ⟨#[]⟩) ∧
      w.cell? ⟨n3, 5, none⟩ = some (.string ⟨#[]⟩) ∧ w.cell? ⟨n3, 6, none⟩ = some (.int .i64 0) ∧ w.cell? ⟨n3, 7, none⟩ = some (.int .i64 0) ∧ w.cell? ⟨n3, 8, none⟩ = some (.int .i64 0)) (hb : Below w.heap.size w w') :
    w'.cell? ⟨nx, 0, none⟩ = some (.string ⟨#[88]⟩) ∧ w'.cell? ⟨nx, 1, none⟩ = some (.int .i64 0) ∧ w'.cell? ⟨nx, 2, none⟩ = some (.int .i64 0) ∧ w'.cell? ⟨nx, 3, none⟩ = some (.string ⟨#[]⟩) ∧
      w'.cell? ⟨ny, 0, none⟩ = some (.string ⟨#[89]⟩) ∧ w'.cell? ⟨ny, 1, none⟩ = some (.int .i64 0) ∧ w'.cell? ⟨ny, 2, none⟩ = some (.int .i64 0) ∧ w'.cell? ⟨ny, 3, none⟩ = some (.string ⟨#[]⟩) ∧
      w'.cell? ⟨n3, 0, none⟩ = some (.int .i64 1) ∧ w'.cell? ⟨n3, 1, none⟩ = some (.string ⟨#[112]⟩) ∧ w'.cell? ⟨n3, 2, none⟩ = some (.int .i64 0) ∧ w'.cell? ⟨n3, 3, none⟩ = some s ∧ w'.cell? ⟨n3, 4, none⟩ = some (.string ⟨#[]⟩) ∧
      w'.cell? ⟨n3, 5, none⟩ = some (.string ⟨#[]⟩) ∧ w'.cell? ⟨n3, 6, none⟩ = some (.int .i64 0) ∧ w'.cell? ⟨n3, 7, none⟩ = some (.int .i64 0) ∧ w'.cell? ⟨n3, 8, none⟩ = some (.int .i64 0) := by
  obtain ⟨h0, h1, h2, h3, h4, h5, h6, h7, h8, h9, h10, h11, h12, h13, h14, h15, h16⟩ := h
  exact ⟨cell_keep hb h0, cell_keep hb h1, cell_keep hb h2, cell_keep hb h3, cell_keep hb h4, cell_keep hb h5, cell_keep hb h6, cell_keep hb h7, cell_keep hb h8, cell_keep hb h9, cell_keep hb h10, cell_keep hb h11, cell_keep hb h12, cell_keep hb h13, cell_keep hb h14, cell_keep hb h15, cell_keep hb h16⟩
theorem litOk_yxy {w : World} {v : Value} (h : IsTerms w v [tY, tX, tY]) : LitOk w (litYXY v) := h
theorem names_yes {va vb : Value} {a : List Nm} {w : World} (ha : IsNames w va a) (hb : IsNames w vb a) : Calls Try.prog 18 #[va, vb] w fun e w' => e = .returned (.bool true) ∧ Below w.heap.size w w' := by
  have := Names_any va vb a a w ha hb
  rwa [decide_eq_true rfl] at this
theorem diags_yes {va vb : Value} {a : List (Int × Int)} {w : World} (ha : IsDiags w va a) (hb : IsDiags w vb a) : Calls Try.prog 21 #[va, vb] w fun e w' => e = .returned (.bool true) ∧ Below w.heap.size w w' := by
  have := Diags_any va vb a a w ha hb
  rwa [decide_eq_true rfl] at this
theorem diags_new (w : World) (l : List (Int × Int)) (hm : l.length ≤ 9223372036854775807) : IsDiags (w.alloc (.cells (l.flatMap encD).toArray 76)) (.slice (some ⟨w.heap.size, 0, none⟩) l.length l.length) l := rows_new (enc := encD) (k := 2) w l 76 (fun _ _ => rfl) hm _
theorem rules_new' (w : World) (n : Nat) (l : List Rl) (hn : n = w.heap.size) (hm : l.length ≤ 9223372036854775807) (hok : ∀ x ∈ l, RuleOk w x) : IsRules (w.alloc (.cells (l.flatMap encR).toArray 27)) (.slice (some ⟨n, 0, none⟩) l.length l.length) l := by
  subst hn
  exact ⟨rows_new (enc := encR) (k := 9) w l 27 (fun _ _ => rfl) hm _, fun x hx => (hok x hx).keep (keeps_below (below_new w _))⟩
def exAtom (na : Nat) : Lt := mkLit 1 0 (.slice (some ⟨na, 0, none⟩) 1 1) [tX]
def exNot (nb : Nat) : Lt := mkLit 2 0 (.slice (some ⟨nb, 0, none⟩) 1 1) [tX]
def exRules (n na : Nat) : List Rl := [mkRule (.slice (some ⟨n, 0, none⟩) 1 1) [exAtom na], badRule (.slice (some ⟨n + 1, 0, none⟩) 1 1) (.slice (some ⟨n + 1 + 1, 0, none⟩) 1 1) (.slice (some ⟨na, 0, none⟩) 1 1)]
def exW1 (w : World) (na : Nat) : World := w.alloc (.cells ([exAtom na].flatMap encL).toArray 58)
def exW2 (w : World) (na : Nat) : World := (exW1 w na).alloc (.cells ([tY].flatMap encT).toArray 69)
def exW3 (w : World) (na : Nat) : World := (exW2 w na).alloc (.cells ([exAtom na].flatMap encL).toArray 58)
def exW4 (w : World) (na : Nat) : World := (exW3 w na).alloc (.cells ((exRules w.heap.size na).flatMap encR).toArray 27)
theorem exSize (w : World) (na : Nat) : (exW1 w na).heap.size = w.heap.size + 1 ∧ (exW2 w na).heap.size = w.heap.size + 1 + 1 ∧ (exW3 w na).heap.size = w.heap.size + 1 + 1 + 1 := by
  simp [exW1, exW2, exW3]
theorem check_bad (w : World) (na : Nat) (ha : LitOk w (exAtom na)) :
    (Calls Try.prog 22 #[.agg #[.slice none 0 0, .slice none 0 0, .slice none 0 0, .slice (some ⟨w.heap.size + 1 + 1 + 1, 0, none⟩) 2 2]]
      ((exW4 w na).alloc (.cells #[.slice none 0 0, .slice none 0 0, .slice none 0 0, .slice (some ⟨w.heap.size + 1 + 1 + 1, 0, none⟩) 2 2] 35)) fun e w' => (∃ v, e = .returned v ∧ IsDiags w' v [(80, 7)]) ∧ Below ((exW4 w na).alloc (.cells #[.slice none 0 0, .slice none 0 0, .slice none 0 0, .slice (some ⟨w.heap.size + 1 + 1 + 1, 0, none⟩) 2 2] 35)).heap.size ((exW4 w na).alloc (.cells #[.slice none 0 0, .slice none 0 0, .slice none 0 0, .slice (some ⟨w.heap.size + 1 + 1 + 1, 0, none⟩) 2 2] 35)) w') ∧
    Below w.heap.size w ((exW4 w na).alloc (.cells #[.slice none 0 0, .slice none 0 0, .slice none 0 0, .slice (some ⟨w.heap.size + 1 + 1 + 1, 0, none⟩) 2 2] 35)) := by
  obtain ⟨s1, s2, s3⟩ := exSize w na
  have b1 : Below w.heap.size w (exW1 w na) := below_new _ _
  have b2 : Below (exW1 w na).heap.size (exW1 w na) (exW2 w na) := below_new _ _
  have b3 : Below (exW2 w na).heap.size (exW2 w na) (exW3 w na) := below_new _ _
  have b4 : Below (exW3 w na).heap.size (exW3 w na) (exW4 w na) := below_new _ _
  have b5 := below_new (exW4 w na) (.cells #[.slice none 0 0, .slice none 0 0, .slice none 0 0, .slice (some ⟨w.heap.size + 1 + 1 + 1, 0, none⟩) 2 2] 35)
  have l1 : IsLits (exW1 w na) (.slice (some ⟨w.heap.size, 0, none⟩) 1 1) [exAtom na] := lits_new w [exAtom na] (by simp) (ok1 ha)
  have t2 : IsTerms (exW2 w na) (.slice (some ⟨w.heap.size + 1, 0, none⟩) 1 1) [tY] := s1 ▸ terms_new (exW1 w na) [tY] (by simp)
  have l3 : IsLits (exW3 w na) (.slice (some ⟨w.heap.size + 1 + 1, 0, none⟩) 1 1) [exAtom na] := lits_new' (exW2 w na) _ [exAtom na] s2.symm (by simp) (ok1 (ha.keep (keeps_below (below_trans b1 b2))))
  have r4 : IsRules (exW4 w na) (.slice (some ⟨w.heap.size + 1 + 1 + 1, 0, none⟩) 2 2) (exRules w.heap.size na) := rules_new' (exW3 w na) _ (exRules w.heap.size na) s3.symm (by simp [exRules]) (by
    intro x hx
    simp [exRules] at hx
    rcases hx with rfl | rfl
    · exact ⟨nil_terms _, l1.keep (keeps_below (below_trans b2 b3))⟩
    · exact ⟨t2.keep (keeps_below b3), l3⟩)
  have hF : ∀ r ∈ exRules w.heap.size na, Fits r := by
    intro x hx
    simp [exRules] at hx
    rcases hx with rfl | rfl
    · exact ⟨by simp [mkRule], by simp [mkRule, exAtom, mkLit]⟩
    · exact ⟨by simp [badRule], by simp [badRule, mkLit]⟩
  have hk : chk (exRules w.heap.size na) = [(80, 7)] := ord7 _ _ _ _
  have hC := Check_any ⟨.slice none 0 0, .slice none 0 0, .slice none 0 0, .slice (some ⟨w.heap.size + 1 + 1 + 1, 0, none⟩) 2 2, exRules w.heap.size na⟩ _ (r4.keep (keeps_below b5)) hF
  refine ⟨?_, below_trans (below_trans b1 b2) (below_trans (below_trans b3 b4) b5)⟩
  refine hC.mono ?_
  rintro e w' ⟨⟨v, rfl, hv⟩, b⟩
  exact ⟨⟨v, rfl, by rw [← hk]; exact hv⟩, b⟩
theorem last_eval (w : World) (na nb : Nat) (ha : LitOk w (exAtom na)) (hb : LitOk w (exNot nb)) :
    Calls Try.prog 19 #[ruleV (mkRule (.slice (some ⟨w.heap.size, 0, none⟩) 2 2) [exNot nb, exAtom na]), .slice none 0 0, .slice (some ⟨w.heap.size + 1, 0, none⟩) 2 2]
      ((w.alloc (.cells ([exNot nb, exAtom na].flatMap encL).toArray 58)).alloc (.cells ([0, 1].flatMap encI).toArray 3)) fun e w' => e = .returned (.bool false) ∧ Below w.heap.size w w' := by
  have m1 := below_new w (.cells ([exNot nb, exAtom na].flatMap encL).toArray 58)
  have L1 := lits_new w [exNot nb, exAtom na] (by simp) (ok2 hb ha)
  have i1 := ints_new' (w.alloc (.cells ([exNot nb, exAtom na].flatMap encL).toArray 58)) (w.heap.size + 1) [0, 1] (by simp) (by decide)
  have m2 := below_new (w.alloc (.cells ([exNot nb, exAtom na].flatMap encL).toArray 58)) (.cells ([0, 1].flatMap encI).toArray 3)
  refine (Evaluable_any (mkRule (.slice (some ⟨w.heap.size, 0, none⟩) 2 2) [exNot nb, exAtom na]) (.slice none 0 0) [] _ [0, 1] _ ⟨nil_terms _, L1.keep (keeps_below m2)⟩ (nil_names _) i1 ⟨by simp [mkRule], by simp [mkRule, exNot, exAtom, mkLit]⟩ (by simp)).mono ?_
  rintro e w' ⟨rfl, b⟩
  exact ⟨ret_bool (ord8 _ _), below_trans (below_trans m1 m2) b⟩
end Go.Proofs.Ytnibgmmoebmnlaa
