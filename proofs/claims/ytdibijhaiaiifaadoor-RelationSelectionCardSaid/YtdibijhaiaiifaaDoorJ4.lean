/- Parts Cc, Aft, Fil, At, Eq, Sel, Sym, Vv, Val, Ra, Ha, Hp: words, walks and laws that the claims of this seat share. -/
import Derived.Test.YtdibijhaiaiifaaDoorJ3
import Derived.Laws.RangeAny
import Derived.Laws.RangeString
import Derived.BigQuiet
/- The walk of combine. -/
namespace Go.Proofs.YtdibijhaiaiifaaDoor
open Go.RowKit Go.Shelf
attribute [local go_sem] Oper.semAt_some
theorem comb_len {op : Bool → Bool → Bool} : ∀ l : List (RR × RR), (combL op l).length ≤ l.length
  | [] => Nat.le_refl _
  | p :: l => by
    unfold combL
    rw [List.flatMap_cons, List.length_append, List.length_cons]
    have h1 : (comb1 op p).length ≤ 1 := by unfold comb1; split <;> simp
    have h2 := comb_len (op := op) l
    unfold combL at h2
    omega
theorem grown_of {A B : World} {r : Option Nat} (h : Below A.heap.size A B) : A.grownBy B r := ⟨h.os, h.tape, h.output, h.size, fun k hk _ => h.block k hk⟩
theorem keeps_of {X : Nat → Prop} {n : Nat} {A B : World} (h : Agree X A B) (hc : ∀ k, X k → ∀ o, A.heap[k]? = some o → o.isCells = true) : KeepsFrom n A B :=
  ⟨h.size, fun k o _ hk ho => (h.block k (block_lt hk) fun hx => by rw [hc k hx o hk] at ho; cases ho).trans hk⟩
theorem Owns.cells {α : Type} {k : Nat} {e : TypeId} {enc : α → List Value} {w : World} {base : Nat} {v : Value} {l : List α} (h : Owns k e enc w base v l) {g : Nat} (hg : v.ownBlock = some g) : ∀ o, w.heap[g]? = some o → o.isCells = true := by
  intro o ho
  rcases h.2 with ⟨rfl, _⟩ | ⟨g', cap, cur, rfl, _, hh, _⟩
  · cases hg
  · obtain rfl : g' = g := by simpa [Value.ownBlock] using hg
    rw [hh] at ho; cases ho; rfl
theorem pair_ok {B : World} {ua ub : Value} {al bl : List RR} {p : RR × RR} (h1 : IsRel B ua al) (h2 : IsRel B ub bl) (hp : p ∈ pairsL al bl) : RowOk B p.1 ∧ RowOk B p.2 := by
  obtain ⟨a, b⟩ := pairs_mem hp
  constructor
  · rcases a with a | ⟨y, hy, e⟩
    · exact h1.2 _ a
    · rw [e]; exact ⟨(h2.2 y hy).1, IsSpans.nil _⟩
  · rcases b with b | b
    · exact h2.2 _ b
    · rw [b]; exact noRow_ok _
theorem pairs_any (pa pb : Option Addr) (n m ca cb : Nat) (w : World) :
    Calls Tryd.prog 126 #[.slice pa n ca, .slice pb m cb] w fun e w' => e = .returned (.func (.func 143) #[] #[.pointer (some ⟨w.heap.size, 0, none⟩), .pointer (some ⟨w.heap.size + 1, 0, none⟩)]) ∧ w' = (w.alloc (.cells #[.slice pa n ca] 24)).alloc (.cells #[.slice pb m cb] 24) := by
  go_enter Tryd.func126, Tryd.ntmps126
  go_wp2
  go_ret
  exact ⟨by simp, rfl⟩
/-- What combine asks of the operation on moments. -/
structure Moms (f : FuncId) (op : Bool → Bool → Bool) : Prop where
  enter : ∀ args w, (callFunc f args).run Tryd.prog w = .ok (.enter f args) w
  call : ∀ va vb a b w, Tab w → IsSpans w va a → IsSpans w vb b → Calls Tryd.prog f #[va, vb] w fun e w' => ∃ u, e = .returned u ∧ IsSpansF w' w.heap.size u (canon fun k => op (setOf a k) (setOf b k)) ∧ Below w.heap.size w w'
/-- What holds behind some rounds of combine. -/
def CmbI (op : Bool → Bool → Bool) (n1 s3 s4 b7 : Nat) (w4 : World) (pre : List (RR × RR)) (W : World) : Prop :=
  (∃ v out, Cel W b7 24 [v] ∧ Hold 2 44 encR RowOk (fun k => k < n1 ∨ k = s3 ∨ k = s3 + 1 ∨ k = s4 ∨ k = s4 + 1) W (s4 + 2) v out ∧ Hid (rows out = combL op pre)) ∧ Agree (fun k => k = b7 ∨ k = s3 ∨ k = s3 + 1 ∨ s4 ≤ k) w4 W
set_option maxHeartbeats 4000000 in
set_option maxRecDepth 100000 in
theorem combine_in (f : FuncId) (op : Bool → Bool → Bool) (h0 : op false false = false) (hf : Moms f op) (va vb : Value) (xs ys : List RR) (w : World) (hT : Tab w) (ha : IsRel w va xs) (hb : IsRel w vb ys) (sa : Sml 10000 xs) (sb : Sml 10000 ys) :
    CallsIn Fence.wide 4 Tryd.prog 83 #[va, vb, .func (.func f) #[] #[]] w fun e w' => ∃ u, e = .returned u ∧ ∃ zs, IsRelF w' w.heap.size u zs ∧ OpOf op xs ys zs ∧ Below w.heap.size w w' := by
  have SA := Lib.hid sa
  have SB := Lib.hid sb
  clear sa sb
  refine callsIn_of_wp_marks Tryd.func83 rfl trivial ?_ rfl
  simp only [Tryd.ntmps83, List.size_toArray, List.length_cons, List.length_nil, Nat.reduceAdd, Nat.reduceSub, Array.replicate_succ, Array.replicate_zero, List.push_toArray, List.append_toArray, List.nil_append, List.cons_append]
  gi_upto_region 2 with fail
  have B1 : Below w.heap.size w ((w.alloc (.cells #[.func (.func f) #[] #[]] 54)).alloc (.cells #[.slice none 0 0] 24)) := below_alloc' (below_new _ _)
  have F5 : Cel ((w.alloc (.cells #[.func (.func f) #[] #[]] 54)).alloc (.cells #[.slice none 0 0] 24)) w.heap.size 54 [.func (.func f) #[] #[]] := (Cel.new w 54 [.func (.func f) #[] #[]]).keep (below_new _ _)
  have F7 : Cel ((w.alloc (.cells #[.func (.func f) #[] #[]] 54)).alloc (.cells #[.slice none 0 0] 24)) (w.heap.size + 1) 24 [.slice none 0 0] := by
    have := Cel.new (w.alloc (.cells #[.func (.func f) #[] #[]] 54)) 24 [.slice none 0 0]
    rwa [World.size_alloc] at this
  have hs1 : ((w.alloc (.cells #[.func (.func f) #[] #[]] 54)).alloc (.cells #[.slice none 0 0] 24)).heap.size = w.heap.size + 2 := by simp
  obtain ⟨w1, hw1⟩ : ∃ z, (w.alloc (.cells #[.func (.func f) #[] #[]] 54)).alloc (.cells #[.slice none 0 0] 24) = z := ⟨_, rfl⟩
  rw [hw1] at B1 F5 F7 hs1
  rw [hw1]
  clear hw1
  obtain ⟨b5, h5⟩ : ∃ b5, w.heap.size = b5 := ⟨_, rfl⟩
  obtain ⟨b7, h7⟩ : ∃ b7, w.heap.size + 1 = b7 := ⟨_, rfl⟩
  rw [h7] at F7
  rw [h7]
  rw [h5] at F5
  have hT1 := hT.keep B1
  have ha1 := ha.keep B1
  have hb1 := hb.keep B1
  gi_wp2_with fail
  refine ⟨trivial, ?_⟩
  (with_reducible refine (callsIn_wide.2 (canonical_any va xs _ hT1 ha1 SA.out)).mono ?_)
  rintro e w2 ⟨ua, rfl, al, Ra, Ca, B2⟩
  gi_wp2_with fail
  refine ⟨trivial, ?_⟩
  (with_reducible refine (callsIn_wide.2 (canonical_any vb ys _ (hT1.keep B2) (hb1.keep B2) SB.out)).mono ?_)
  rintro e w3 ⟨ub, rfl, bl, Rb, Cb, B3⟩
  replace Ra := Ra.keep B3
  replace Rb := Rb.mono B2.size
  have B13 := below_trans B2 B3
  obtain ⟨pa, ca, rfl, hma⟩ := Ra.rel.shape
  obtain ⟨pb, cb, rfl, hmb⟩ := Rb.rel.shape
  have HCA := Lib.hid Ca
  have HCB := Lib.hid Cb
  have hal : al.length ≤ 10000 := (Ca.sml _ SA.out).len
  have hbl : bl.length ≤ 10000 := (Cb.sml _ SB.out).len
  clear Ca Cb ha1 hb1 ha hb B2 B3
  gi_wp2_with fail
  refine ⟨trivial, ?_⟩
  (with_reducible refine (callsIn_wide.2 (pairs_any _ _ _ _ _ _ _)).mono ?_)
  rintro e w4 ⟨rfl, hw4⟩
  have G1 : Cel w4 w3.heap.size 24 [.slice pa al.length ca] := by rw [hw4]; exact (Cel.new w3 24 [.slice pa al.length ca]).keep (below_new _ _)
  have G2 : Cel w4 (w3.heap.size + 1) 24 [.slice pb bl.length cb] := by
    have := Cel.new (w3.alloc (.cells #[.slice pa al.length ca] 24)) 24 [.slice pb bl.length cb]
    rw [World.size_alloc] at this
    rw [hw4]; exact this
  have B4 : Below w3.heap.size w3 w4 := by rw [hw4]; exact below_alloc' (below_new _ _)
  have hs4 : w4.heap.size = w3.heap.size + 2 := by rw [hw4]; simp
  clear hw4
  replace F5 := F5.keep (below_trans B13 B4)
  replace F7 := F7.keep (below_trans B13 B4)
  have hs13 := B13.size
  have hRR : ∀ B, Agree (fun k => k = b7 ∨ k = w3.heap.size ∨ k = w3.heap.size + 1 ∨ w4.heap.size ≤ k) w4 B → Agree (fun k => k < w1.heap.size) w3 B := fun B hB =>
    ⟨hB.os.trans B4.os, hB.tape.trans B4.tape, hB.output.trans B4.output, Nat.le_trans B4.size hB.size, fun k hk hx => (hB.block k (by omega) (by omega)).trans (B4.block k hk)⟩
  gi_wp2_with fail
  have hseq : SeqBox Fence.wide 3 Tryd.prog 143 #[.pointer (some ⟨w3.heap.size, 0, none⟩), .pointer (some ⟨w3.heap.size + 1, 0, none⟩)] encPr (fun p => p ∈ pairsL al bl) (fun k => k = w3.heap.size ∨ k = w3.heap.size + 1) (Agree (fun k => k = b7 ∨ w4.heap.size ≤ k)) (fun l => l = pairsL al bl) (pairsL al bl).length w4 :=
    fun l J W hW hJ hY hj => pairs_in l w3.heap.size (w3.heap.size + 1) b7 w4.heap.size al bl _ _ J hJ (fun pre x A hx hp hl => hY pre x A hx hp hl) W (by omega) (by omega) (by omega) (by omega) (by omega) (G1.keep hW) (G2.keep hW)
      (fun B hB => by have h := hRR B ((Agree.of_below hW).trans hB); exact ⟨Ra B h, Rb B h⟩) (by omega) (by omega) hj
  have i1 := Nat.le_of_eq hs1
  have i2 := Nat.le_of_eq hs1.symm
  have i3 := Nat.le_of_eq hs4
  have i4 := Nat.le_of_eq hs4.symm
  have i5 := Nat.le_of_eq h5
  have i6 := Nat.le_of_eq h5.symm
  have i7 := Nat.le_of_eq h7
  have i8 := Nat.le_of_eq h7.symm
  have hexb : ∀ k, (k < w1.heap.size ∨ k = w3.heap.size ∨ k = w3.heap.size + 1 ∨ k = w4.heap.size ∨ k = w4.heap.size + 1) → k < w4.heap.size + 2 := fun k hk => by omega
  have hb7 : b7 < w1.heap.size := by omega
  clear hs1 hs4 h5 h7
  refine range_box (α := RR × RR) rfl (by decide) (gf := 143) (lb := #[.pointer (some ⟨w3.heap.size, 0, none⟩), .pointer (some ⟨w3.heap.size + 1, 0, none⟩)]) rfl trivial (enters_of Tryd.func143 (by kernel_rfl) rfl) hseq (fun k hk => by omega) Agree.trans (fun W l o o' hl _ _ _ => Agree.putObj W (.inr hl) o') (Below.refl _ _) (fun _ => rfl)
    (CmbI op w1.heap.size w3.heap.size w4.heap.size b7 w4)
    (fun s A B hs hg => by
      obtain ⟨⟨v, out, h1, h2, h3⟩, h4⟩ := hs
      exact ⟨⟨v, out, h1.agree hg (by omega), h2.agree (hg.mono fun k hk => by omega) hexb, h3⟩, h4.trans (hg.mono fun k hk => by omega)⟩)
    ⟨⟨_, [], F7, Hold.nil _ _, Lib.hid rfl⟩, Agree.refl _ _⟩
    (fun x a' W => ∃ bx bz, w4.heap.size + 2 ≤ bx ∧ w4.heap.size + 2 ≤ bz ∧ Cel W bx 44 [x.1.av, x.1.wv] ∧ Cel W bz 44 [x.2.av, x.2.wv] ∧ a' = { tmps := #[va, vb, .func (.func f) #[] #[], undef, undef, .pointer (some ⟨b5, 0, none⟩), .slice none 0 0, .pointer (some ⟨b7, 0, none⟩), .pointer (some ⟨bx, 0, none⟩), .pointer (some ⟨bz, 0, none⟩), undef, va, .slice pa al.length ca, vb, .slice pb bl.length cb, .func (.func 143) #[] #[.pointer (some ⟨w3.heap.size, 0, none⟩), .pointer (some ⟨w3.heap.size + 1, 0, none⟩)], .agg #[x.1.av, x.1.wv], .agg #[x.2.av, x.2.wv], undef, undef, undef, undef, undef, undef, undef, undef, undef, undef, undef, undef, undef, undef, undef, undef, undef], defers := [] })
    (fun x a' A B hs hg => by obtain ⟨bx, bz, h1, h2, h3, h4, h5⟩ := hs; exact ⟨bx, bz, h1, h2, h3.agree hg (by omega), h4.agree hg (by omega), h5⟩) ?assign ?body ?done
  case assign =>
    rintro l pre x W K hx hsz ⟨⟨v, out, h1, h2, h3⟩, h4⟩ hK
    unfold encPr rowV
    have B9 : Below W.heap.size W ((W.alloc (.cells #[x.1.av, x.1.wv] 44)).alloc (.cells #[x.2.av, x.2.wv] 44)) := below_alloc' (below_new _ _)
    have X9 : Cel ((W.alloc (.cells #[x.1.av, x.1.wv] 44)).alloc (.cells #[x.2.av, x.2.wv] 44)) W.heap.size 44 [x.1.av, x.1.wv] := (Cel.new W 44 [x.1.av, x.1.wv]).keep (below_new _ _)
    have Y9 : Cel ((W.alloc (.cells #[x.1.av, x.1.wv] 44)).alloc (.cells #[x.2.av, x.2.wv] 44)) (W.heap.size + 1) 44 [x.2.av, x.2.wv] := by
      have := Cel.new (W.alloc (.cells #[x.1.av, x.1.wv] 44)) 44 [x.2.av, x.2.wv]
      rwa [World.size_alloc] at this
    gi_wp2
    exact hK _ _ (KeepsFrom.of_grownBy (row := none) (grown_of B9) (fun _ e => by cases e)) (.of_below B9) ⟨⟨v, out, h1.keep B9, h2.keep B9, h3⟩, h4.trans (.of_below B9)⟩ ⟨W.heap.size, W.heap.size + 1, hsz, by omega, X9, Y9, rfl⟩
  case body =>
    rintro l pre x a' W hl hx ⟨⟨v, out, h1, h2, h3⟩, h4⟩ ⟨bx, bz, hbx, hbz, X9, Y9, rfl⟩ hlt
    obtain ⟨p4, c4, rfl⟩ := h2.form
    have hWs : w4.heap.size + 2 ≤ W.heap.size := by have := X9.lt; omega
    have F5W := F5.agree h4 (by omega)
    have HRW := hRR W h4
    have POK := pair_ok (Ra W HRW) (Rb W HRW) hx
    have BW : Below w.heap.size w W := (below_trans (below_trans B1 (B13.mono (Nat.le_refl _))) (B4.mono (Nat.le_refl _))).trans (h4.below (by omega) (fun k hk => by omega))
    have hTW := hT.keep BW
    have q5 := F5W.at_ (j := 0) rfl
    have qx := X9.at_ (j := 1) rfl
    have qz := Y9.at_ (j := 1) rfl
    have hps := pairs_len _ al bl (Nat.le_refl _)
    gi_wp2_with fail
    rw [hf.enter, Oper.uponIn_enter]
    refine ⟨trivial, fun _ => by omega, ?_⟩
    (with_reducible refine (CallsIn.inRound l (callsIn_wide.2 (hf.call _ _ x.1.s x.2.s _ hTW POK.1.spans POK.2.spans))).mono ?_)
    rintro e W5 ⟨u5, rfl, ⟨h5, f5⟩, B5⟩
    obtain ⟨S, hS⟩ : ∃ S, Hid ((canon fun k => op (setOf x.1.s k) (setOf x.2.s k)) = S) := ⟨_, Lib.hid rfl⟩
    rw [hS.out] at h5
    obtain ⟨p5, c5, rfl, h5⟩ := h5
    have hSl : S.length ≤ 32 := by rw [← hS.out]; exact canon_le _
    have H15 := h1.keep B5
    have A45 : Agree (fun k => k = b7 ∨ k = w3.heap.size ∨ k = w3.heap.size + 1 ∨ w4.heap.size ≤ k) w4 W5 := h4.trans (.of_below B5)
    have q7 := H15.at_ (j := 0) rfl
    have qt := (X9.keep B5).at_ (j := 0) rfl
    by_cases hS0 : S.length = 0
    · have hSz : ¬ (0 : Int) < (S.length : Int) := by omega
      have CN : Hid (rows out = combL op (pre ++ [x])) := Lib.hid (by rw [combL_append, h3.out]; unfold comb1; rw [hS.out, if_pos (List.eq_nil_of_length_eq_zero hS0), List.append_nil])
      gi_wp2
      exact ⟨KeepsFrom.of_grownBy (row := none) (grown_of B5) (fun _ e => by cases e), .of_below B5, ⟨_, out, H15, h2.keep B5, CN⟩, A45⟩
    · have hSz : (0 : Int) < (S.length : Int) := by omega
      have CN : Hid (rows (out ++ [⟨x.1.pa, x.1.ca, x.1.t, p5, c5, S⟩]) = combL op (pre ++ [x])) := Lib.hid (by
        rw [combL_append, rows_append, h3.out]; unfold comb1; rw [hS.out, if_neg (fun e => hS0 (by rw [e]; rfl))]; rfl)
      have hq : Off RowOk (W5.alloc (.cells #[x.1.av, .slice p5 S.length c5] 44)) (Ex (.slice p4 out.length c4) (fun k => k < w1.heap.size ∨ k = w3.heap.size ∨ k = w3.heap.size + 1 ∨ k = w4.heap.size ∨ k = w4.heap.size + 1)) ⟨x.1.pa, x.1.ca, x.1.t, p5, c5, S⟩ := fun B hB => by
        have A46 := A45.alloc (.cells #[x.1.av, .slice p5 S.length c5] 44)
        have h3B : Agree (fun k => k < w1.heap.size) w3 B := ⟨hB.os.trans (A46.os.trans B4.os), hB.tape.trans (A46.tape.trans B4.tape), hB.output.trans (A46.output.trans B4.output), Nat.le_trans B4.size (Nat.le_trans A46.size hB.size), fun k hk hn =>
          (hB.block k (by have := A46.size; omega) (fun e => by
            rcases e with e | e
            · have := (h2.1.lt k e).1; omega
            · omega)).trans ((A46.block k (by omega) (by omega)).trans (B4.block k hk))⟩
        refine ⟨(pair_ok (Ra B h3B) (Rb B h3B) hx).1.vals, ?_⟩
        refine IsSpans.agree (w := W5.alloc (.cells #[x.1.av, .slice p5 S.length c5] 44)) (IsSpans.keep ⟨p5, c5, rfl, h5⟩ (below_new _ _)) hB fun b hb e => ?_
        have := f5 b hb
        rcases e with e | e
        · have := (h2.1.lt b e).2; omega
        · omega
      have hm : IsRows 2 encR (W5.alloc (.cells #[x.1.av, .slice p5 S.length c5] 44)) (.slice (some ⟨W5.heap.size, 0, none⟩) 1 1) [⟨x.1.pa, x.1.ca, x.1.t, p5, c5, S⟩] := IsRows.lit W5 [_] encsR (by simp)
      have B56 : Below W.heap.size W (W5.alloc (.cells #[x.1.av, .slice p5 S.length c5] 44)) := below_trans B5 (below_new _ _)
      have H16 := H15.keep (below_new W5 (.cells #[x.1.av, .slice p5 S.length c5] 44))
      have hol : out.length ≤ 1000000 := by
        have e1 : out.length = (combL op pre).length := by rw [← h3.out, rows_length]
        have e2 : (combL op pre).length ≤ pre.length := comb_len pre
        omega
      gi_wp2_with (gi_at_builtin; refine wpListIn_hold fitsR24 encsR rfl _ _ rfl rfl rfl h2 B56 hm (fun u hu => by rw [List.mem_singleton.1 hu]; exact hq) hWs hol (by simp) ?_; intro p9 c9 W7 H9 B9 hG9; rw [show (out ++ [(⟨x.1.pa, x.1.ca, x.1.t, p5, c5, S⟩ : RR)]).length = out.length + 1 by simp] at H9; have H17 := Cel.agree (X := Ex (.slice p4 out.length c4) noB) H16 (.of_grown hG9 fun k hk => .inl hk) (fun e => by rcases e with e | e; (have := (h2.1.lt _ e).1; omega); exact e); have q17 := H17.at_ (j := 0) rfl; have f17 := H17.free 0)
      have AG : Agree (fun k => k = b7 ∨ Value.ownBlock (.slice p4 out.length c4) = some k) W (W7.setCell ⟨b7, 0, none⟩ (.slice p9 (out.length + 1) c9)) :=
        ((Agree.of_below B56).trans (.of_grown hG9 fun k hk => .inr hk)).setCell (.inl (.inl rfl)) _
      refine ⟨keeps_of AG fun k hk o ho => ?_, AG.mono fun k hk => ?_, ⟨_, _, H17.set 0 _, ?_, CN⟩, ?_⟩
      · rcases hk with rfl | hk
        · rw [h1] at ho; cases ho; rfl
        · exact h2.1.cells hk o ho
      · rcases hk with hk | hk
        · exact .inl hk
        · exact .inr (by have := (h2.1.lt k hk).1; omega)
      · exact H9.agree ((Agree.refl _ _).setCell (.inl (.inl hb7)) _) hexb
      · exact h4.trans (AG.mono fun k hk => by
          rcases hk with hk | hk
          · exact .inl hk
          · have := (h2.1.lt k hk).1; omega)
  case done =>
    rintro zs W hS ⟨⟨v, out, h1, h2, h3⟩, h4⟩ hK
    obtain ⟨p4, c4, rfl⟩ := h2.form
    have q7 := h1.at_ (j := 0) rfl
    have hps := pairs_len _ al bl (Nat.le_refl _)
    have hol : out.length ≤ 1000000 := by
      have e1 : out.length = (combL op zs).length := by rw [← h3.out, rows_length]
      have e2 : (combL op zs).length ≤ zs.length := comb_len zs
      rw [hS] at e1 e2
      omega
    rw [hS] at h3
    have RES := Lib.hid (opOf_comb h0 HCA.out HCB.out h3.out)
    clear hS
    gi_wp2
    refine ⟨by simp, .inl ⟨_, _, rfl, run_takeDeferred hK, ?_⟩⟩
    refine ⟨_, results_tmp rfl _ _ _, _, rfl, out, ?_, RES.out, ?_⟩
    · exact ((h2.agree (Agree.putObj (l := w4.heap.size) W (.inr (.inr (.inr (.inl rfl)))) _) hexb).less fun k hk => .inl (by omega)).relF (by omega) (by omega)
    · have BW : Below w.heap.size w W := (below_trans (below_trans B1 B13) B4).trans (h4.below (by omega) (fun k hk => by omega))
      exact BW.trans ((Agree.putObj (X := fun k => k = w4.heap.size) (l := w4.heap.size) W rfl _).below (by have := BW.size; omega) fun k hk => by omega)
theorem combine_any (f : FuncId) (op : Bool → Bool → Bool) (h0 : op false false = false) (hf : Moms f op) (va vb : Value) (xs ys : List RR) (w : World) (hT : Tab w) (ha : IsRel w va xs) (hb : IsRel w vb ys) (sa : Sml 10000 xs) (sb : Sml 10000 ys) :
    Calls Tryd.prog 83 #[va, vb, .func (.func f) #[] #[]] w fun e w' => ∃ u, e = .returned u ∧ ∃ zs, IsRelF w' w.heap.size u zs ∧ OpOf op xs ys zs ∧ Below w.heap.size w w' := callsIn_wide.1 (combine_in f op h0 hf va vb xs ys w hT ha hb sa sb)
end Go.Proofs.YtdibijhaiaiifaaDoor
/- A region that draws its order, only reads, and calls functions that may make memory: walked once. Union, Meet, Minus, Insert, Remove. -/
namespace Go.Proofs.YtdibijhaiaiifaaDoor
open Go.RowKit
structure AftB (w : World) where
  w' : World
  ok : Below w.heap.size w w'
instance (w : World) : Inhabited (AftB w) := ⟨⟨w, Below.refl _ w⟩⟩
theorem AftB.cell {w : World} {a : Addr} {v : Value} (h : w.cell? a = some v) : ∀ p : AftB w, p.w'.cell? a = some v := fun p => cell_keep p.ok h
theorem AftB.call {w : World} {f : FuncId} {args : Array Value} {v : Value} {p : AftB w} (h : Calls Tryd.prog f args p.w' fun e w' => e = .returned v ∧ Below p.w'.heap.size p.w' w') : Calls Tryd.prog f args p.w' fun e w'' => e = .returned v ∧ ∃ q : AftB w, w'' = q.w' :=
  h.mono fun _ w'' ⟨he, hg⟩ => ⟨he, ⟨w'', below_trans p.ok hg⟩, rfl⟩
theorem wp_region_aftB {id : Nat} {Q : Exit → Act → World → Prop} {a : Act} {w : World} {l : List Oper} (hm : Tryd.prog.follows .mixedOrders = true) (hB : Region.lexB .any l.toArray = true)
    (h : wpQuiet Tryd.prog l.toArray (fun w' => ∃ p : AftB w, w' = p.w') (fun a' => ∀ w', Below w.heap.size w w' → Q .normal a' w') l a) : (Code.region id l.toArray true).wp Tryd.prog Q a w :=
  wp_region_quiet (C := fun w' => ∃ p : AftB w, w' = p.w') hm hB ⟨⟨w.drew, (Below.refl _ w).drew⟩, rfl⟩ (by
    have e : (fun a' => ∀ w', Below w.heap.size w w' → Q .normal a' w') = fun a' => ∀ w', (∃ p : AftB w, w' = p.w') → Q .normal a' w' := by
      funext a'
      refine propext ⟨fun h w' ⟨p, hp⟩ => by subst hp; exact h _ p.ok, fun h w' hg => h w' ⟨⟨w', hg⟩, rfl⟩⟩
    rw [← e]; simpa using h)
/-! ### the operations on relations -/
def RelRet (op : Bool → Bool → Bool) (xs ys : List RR) (w : World) (e : Ending) (w' : World) : Prop := ∃ u, e = .returned u ∧ ∃ zs, IsRelF w' w.heap.size u zs ∧ OpOf op xs ys zs ∧ Below w.heap.size w w'
def opU (x y : Bool) : Bool := x || y
def opM (x y : Bool) : Bool := x && y
def opD (x y : Bool) : Bool := x && !y
theorem momsU : Moms 49 opU := ⟨enters_of Tryd.func49 (by kernel_rfl) rfl, fun va vb a b w hT ha hb => Union_any va vb a b w hT ha hb⟩
theorem momsM : Moms 84 opM := ⟨enters_of Tryd.func84 (by kernel_rfl) rfl, fun va vb a b w hT ha hb => Meet_any va vb a b w hT ha hb⟩
theorem momsD : Moms 48 opD := ⟨enters_of Tryd.func48 (by kernel_rfl) rfl, fun va vb a b w hT ha hb => Minus_any va vb a b w hT ha hb⟩
section
variable (va vb : Value) (xs ys : List RR) (w : World) (hT : Tab w) (ha : IsRel w va xs) (hb : IsRel w vb ys) (sa : Sml 10000 xs) (sb : Sml 10000 ys)
include hT ha hb sa sb
theorem UnionR_any : Calls Tryd.prog 29 #[va, vb] w (RelRet opU xs ys w) := by
  go_enter Tryd.func29, Tryd.ntmps29
  go_wp2_with fail
  refine (combine_any 49 opU rfl momsU va vb xs ys _ hT ha hb sa sb).mono ?_
  rintro e w1 ⟨u, rfl, zs, h1, h2, h3⟩
  go_wp2
  go_ret
  exact ⟨u, rfl, zs, h1, h2, h3⟩
theorem MeetR_any : Calls Tryd.prog 31 #[va, vb] w (RelRet opM xs ys w) := by
  go_enter Tryd.func31, Tryd.ntmps31
  go_wp2_with fail
  refine (combine_any 84 opM rfl momsM va vb xs ys _ hT ha hb sa sb).mono ?_
  rintro e w1 ⟨u, rfl, zs, h1, h2, h3⟩
  go_wp2
  go_ret
  exact ⟨u, rfl, zs, h1, h2, h3⟩
theorem MinusR_any : Calls Tryd.prog 33 #[va, vb] w (RelRet opD xs ys w) := by
  go_enter Tryd.func33, Tryd.ntmps33
  go_wp2_with fail
  refine (combine_any 48 opD rfl momsD va vb xs ys _ hT ha hb sa sb).mono ?_
  rintro e w1 ⟨u, rfl, zs, h1, h2, h3⟩
  go_wp2
  go_ret
  exact ⟨u, rfl, zs, h1, h2, h3⟩
end
/-- A row that lies nowhere. -/
def rr (t : Tp) (s : List Sp) : RR := ⟨none, 0, t, none, 0, s⟩
theorem Sml.one {t : Tp} {s : List Sp} (ht : t.length ≤ 64) (hs : s.length ≤ 64) {n : Nat} (hn : 1 ≤ n) : Sml n [rr t s] := ⟨hn, by simp; exact ⟨ht, hs⟩⟩
theorem OpOf.congr {op : Bool → Bool → Bool} {xs ys ys' zs : List RR} (h : OpOf op xs ys zs) (e : rows ys = rows ys') : OpOf op xs ys' zs := by
  refine ⟨h.can, fun t k hk => by rw [h.mom t k hk, e], fun n m hn hm => h.sml n m hn ⟨?_, fun x hx => ?_⟩⟩
  · have h1 : ys.length = ys'.length := by have := congrArg List.length e; rwa [rows_length, rows_length] at this
    rw [h1]; exact hm.len
  · have h1 : x.rw ∈ rows ys' := by rw [← e]; exact mem_rows.2 ⟨x, hx, rfl⟩
    obtain ⟨y, hy, e'⟩ := mem_rows.1 h1
    have := hm.each y hy
    have e1 : y.t = x.t := congrArg Prod.fst e'
    have e2 : y.s = x.s := congrArg Prod.snd e'
    rwa [e1, e2] at this
section
variable (va vt vs : Value) (xs : List RR) (t : Tp) (s : List Sp) (w : World) (hT : Tab w) (ha : IsRel w va xs) (ht : IsVals w vt t) (hs : IsSpans w vs s) (sa : Sml 10000 xs) (st : t.length ≤ 64) (ss : s.length ≤ 64)
include hT ha ht hs sa st ss
theorem InsertR_any : Calls Tryd.prog 25 #[va, vt, vs] w (RelRet opU xs [rr t s] w) := by
  obtain ⟨pt, ct, rfl, ht⟩ := ht
  obtain ⟨ps, cs, rfl, hs⟩ := hs
  have B1 := below_new w (.cells #[.slice pt t.length ct, .slice ps s.length cs] 44)
  have hm : IsRel (w.alloc (.cells #[.slice pt t.length ct, .slice ps s.length cs] 44)) (.slice (some ⟨w.heap.size, 0, none⟩) 1 1) [⟨pt, ct, t, ps, cs, s⟩] := ⟨IsRows.lit w [_] encsR (by simp), fun x hx => by rw [List.mem_singleton.1 hx]; exact RowOk.keep ⟨⟨pt, ct, rfl, ht⟩, ⟨ps, cs, rfl, hs⟩⟩ B1⟩
  go_enter Tryd.func25, Tryd.ntmps25
  go_wp2_with fail
  refine (UnionR_any _ _ xs _ _ (hT.keep B1) (ha.keep B1) hm sa ⟨by simp, by simp; exact ⟨st, ss⟩⟩).mono ?_
  rintro e w1 ⟨u, rfl, zs, h1, h2, h3⟩
  go_wp2
  go_ret
  exact ⟨u, rfl, zs, h1.mono B1.size, h2.congr rfl, below_trans B1 h3⟩
theorem RemoveR_any : Calls Tryd.prog 27 #[va, vt, vs] w (RelRet opD xs [rr t s] w) := by
  obtain ⟨pt, ct, rfl, ht⟩ := ht
  obtain ⟨ps, cs, rfl, hs⟩ := hs
  have B1 := below_new w (.cells #[.slice pt t.length ct, .slice ps s.length cs] 44)
  have hm : IsRel (w.alloc (.cells #[.slice pt t.length ct, .slice ps s.length cs] 44)) (.slice (some ⟨w.heap.size, 0, none⟩) 1 1) [⟨pt, ct, t, ps, cs, s⟩] := ⟨IsRows.lit w [_] encsR (by simp), fun x hx => by rw [List.mem_singleton.1 hx]; exact RowOk.keep ⟨⟨pt, ct, rfl, ht⟩, ⟨ps, cs, rfl, hs⟩⟩ B1⟩
  go_enter Tryd.func27, Tryd.ntmps27
  go_wp2_with fail
  refine (MinusR_any _ _ xs _ _ (hT.keep B1) (ha.keep B1) hm sa ⟨by simp, by simp; exact ⟨st, ss⟩⟩).mono ?_
  rintro e w1 ⟨u, rfl, zs, h1, h2, h3⟩
  go_wp2
  go_ret
  exact ⟨u, rfl, zs, h1.mono B1.size, h2.congr rfl, below_trans B1 h3⟩
end
end Go.Proofs.YtdibijhaiaiifaaDoor
/- The walks of When and filter. -/
namespace Go.Proofs.YtdibijhaiaiifaaDoor
open Go.RowKit
structure WhI (xs : List RR) (t : Tp) (i : Nat) (W : List Sp) : Prop where
  set : ∀ j, setOf W j = mom (rows (xs.take i)) t j
  len : (∀ x ∈ xs, x.t.length ≤ 64 ∧ x.s.length ≤ 64) → W.length ≤ i * 64
theorem WhI.start (xs : List RR) (t : Tp) : WhI xs t 0 [] := ⟨fun j => by simp; rfl, by simp⟩
theorem mom_one (x : RR) (t : Tp) (j : Nat) : mom (rows [x]) t j = (decide (x.t = t) && setOf x.s j) := by
  show ((decide (x.t = t) && setOf x.s j) || false) = _
  rw [Bool.or_false]
theorem take_succ' {α : Type} {xs : List α} {i : Nat} {x : α} (hx : xs[i]? = some x) : xs.take (i + 1) = xs.take i ++ [x] := by rw [List.take_add_one, hx]; rfl
theorem WhI.hit {xs : List RR} {t : Tp} {i : Nat} {W : List Sp} (h : WhI xs t i W) {x : RR} (hx : xs[i]? = some x) (e : cmpT x.t t = 0) : WhI xs t (i + 1) (W ++ x.s) := by
  refine ⟨fun j => ?_, fun hs => ?_⟩
  · rw [setOf_cat, take_succ' hx, rows_append, mom_append, mom_one, decide_eq_true ((cmpT_is.eq _ _).1 e), Bool.true_and, h.set j]
  · have h1 := h.len hs
    have h2 := (hs x (List.mem_of_getElem? hx)).2
    rw [List.length_append, Nat.add_mul]; omega
theorem WhI.miss {xs : List RR} {t : Tp} {i : Nat} {W : List Sp} (h : WhI xs t i W) {x : RR} (hx : xs[i]? = some x) (e : ¬ cmpT x.t t = 0) : WhI xs t (i + 1) W := by
  refine ⟨fun j => ?_, fun hs => ?_⟩
  · rw [take_succ' hx, rows_append, mom_append, mom_one, decide_eq_false (fun q => e ((cmpT_is.eq _ _).2 q)), Bool.false_and, Bool.or_false, h.set j]
  · have h1 := h.len hs; omega
theorem IsVals.keep2 {w w' : World} {v : Value} {l : Tp} (h : IsVals w v l) (hb : Below w.heap.size w w') : IsVals w' v l := h.keep hb
set_option maxHeartbeats 4000000 in
set_option maxRecDepth 1000000 in
theorem WhenR_any (va vt : Value) (xs : List RR) (t : Tp) (w : World) (hT : Tab w) (ha : IsRel w va xs) (ht : IsVals w vt t) (sa : Sml 10000 xs) :
    Calls Tryd.prog 22 #[va, vt] w fun e w' => ∃ u, e = .returned u ∧ IsSpansF w' w.heap.size u (canon fun k => mom (rows xs) t k) ∧ Below w.heap.size w w' := by
  have HS := Lib.hid sa.each
  have hl := sa.len
  clear sa
  obtain ⟨pa, pc, rfl, -⟩ := ha.shape
  go_enter Tryd.func22, Tryd.ntmps22
  go_wp2
  go_loopg [5, 10] xs.length (fun g v5 vi wr => ∃ (i : Nat) (W : List Sp), vi = .int .i64 i ∧ i ≤ xs.length ∧ xs.length - i ≤ g ∧ Hid (WhI xs t i W) ∧ Owns 2 86 encSp wr w.heap.size v5 W ∧ Below w.heap.size w wr)
  case atStart => exact ⟨0, [], rfl, Nat.zero_le _, Nat.le_refl _, Lib.hid (WhI.start _ _), Owns.nil _ _, Below.refl _ _⟩
  case round =>
    obtain ⟨i, W, rfl, hi, hg, V, H5, B⟩ := hrel
    obtain ⟨p5, c5, rfl⟩ := H5.form
    have hWl : W.length ≤ 1000000 := by have := V.out.len HS.out; omega
    by_cases hlt : i < xs.length
    · have hltz : (i : Int) < (xs.length : Int) := by omega
      obtain ⟨x, hx⟩ := getElem_of_lt hlt
      obtain ⟨b, off, e, c0, c1, rx⟩ := (ha.keep B).at_ hx
      cases e
      have VH := Lib.hid (V.out.hit hx)
      have VM := Lib.hid (V.out.miss hx)
      have hxl := (HS.out x (List.mem_of_getElem? hx)).2
      clear hx
      go_upto_region 5 with fail
      have BA := below_new wr (.cells #[x.av, x.wv] 44)
      have X := Cel.new wr 44 [x.av, x.wv]
      obtain ⟨wA, hwA⟩ : ∃ z, wr.alloc (.cells #[x.av, x.wv] 44) = z := ⟨_, rfl⟩
      have X' : Cel wA wr.heap.size 44 [x.av, x.wv] := by rw [← hwA]; exact X
      rw [hwA] at BA
      rw [hwA]
      clear hwA X c0 c1
      have q0 := X'.at_ (j := 0) rfl
      have q1 := X'.at_ (j := 1) rfl
      have htA := (ht.keep B).keep BA
      have rA := rx.keep BA
      have H6 := H5.keep BA
      have B2 := B.trans (BA.mono B.size)
      go_wp2_with fail
      refine (CompareTuple_any _ _ x.t t _ rA.1 htA).mono ?_
      rintro e w5 ⟨rfl, g5⟩
      obtain ⟨r, hr⟩ : ∃ r, cmpT x.t t = r := ⟨_, rfl⟩
      rw [hr] at VH VM
      rw [hr]
      clear hr
      replace q1 := cell_keep g5.below q1
      have hs5 := (rA.keep g5.below).2.rows
      replace H6 := H6.keep g5.below
      replace B2 := B2.trans (g5.below.mono B2.size)
      clear q0 htA rA g5 X' BA rx
      by_cases hr0 : r = 0
      · have VN := Lib.hid (VH.out hr0)
        subst hr0
        go_wp2_with (at_builtin; refine wpList_cat fitsS encsS rfl _ _ rfl rfl rfl H6 (Below.refl _ _) hs5 B2.size hWl (by omega) ?_; intro p1 c1 w7 hO hB hG)
        go_roundg (xs.length - (i + 1))
        case measure => omega
        case rel => exact ⟨i + 1, _, by go_num, hlt, Nat.le_refl _, VN, by rw [List.length_append] at hO; exact hO, B2.trans hB⟩
      · have VN := Lib.hid (VM.out hr0)
        have hrb : (r == 0) = false := by rw [beq_eq_false_iff_ne]; exact hr0
        go_wp2
        go_roundg (xs.length - (i + 1))
        case measure => omega
        case rel => exact ⟨i + 1, W, by go_num, hlt, Nat.le_refl _, VN, H6, B2⟩
    · have hltz : ¬ (i : Int) < (xs.length : Int) := by omega
      have RES := Lib.hid (show canon (setOf W) = canon fun k => mom (rows xs) t k from canon_ext fun k _ => by rw [V.out.set k, List.take_of_length_le (by omega)])
      have h6 := IsSpans.of_rows (H5.is encsS (by omega))
      go_wp2_with fail
      refine (Of_any _ W _ (hT.keep B) h6).mono ?_
      rintro e w5 ⟨u5, rfl, ⟨h5, f5⟩, B5⟩
      rw [RES.out] at h5
      go_wp2
      go_ret
      exact ⟨u5, rfl, ⟨h5, f5.mono B.size⟩, B.trans (B5.mono B.size)⟩
theorem filter_take {α : Type} {P : α → Bool} {xs : List α} {i : Nat} {x : α} (hx : xs[i]? = some x) : (xs.take (i + 1)).filter P = (xs.take i).filter P ++ (if P x = true then [x] else []) := by
  rw [take_succ' hx, List.filter_append]
  congr 1
  cases h : P x <;> simp [h]
set_option maxHeartbeats 4000000 in
set_option maxRecDepth 1000000 in
theorem filter_any (g : FuncId) (ad : Addr) (P : RR → Bool) (va : Value) (xs : List RR) (w : World) (henter : ∀ args w, (callFunc g args).run Tryd.prog w = .ok (.enter g args) w)
    (hcall : ∀ W, Below w.heap.size w W → ∀ x ∈ xs, Calls Tryd.prog g #[rowV x, .pointer (some ad)] W fun e W' => e = .returned (.bool (P x)) ∧ Below W.heap.size W W') (ha : IsRel w va xs) (hl : xs.length ≤ 1000000) :
    Calls Tryd.prog 86 #[va, .func (.func g) #[] #[.pointer (some ad)]] w fun e w' => ∃ u, e = .returned u ∧ IsRel w' u (xs.filter P) ∧ Below w.heap.size w w' := by
  obtain ⟨pa, pc, rfl, -⟩ := ha.shape
  go_enter Tryd.func86, Tryd.ntmps86
  go_wp2
  go_loopg [5, 9] xs.length (fun g v5 vi wr => ∃ (i : Nat) (out : List RR), vi = .int .i64 i ∧ i ≤ xs.length ∧ xs.length - i ≤ g ∧ Hid (out = (xs.take i).filter P) ∧ Hold 2 44 encR RowOk noB wr w.heap.size v5 out ∧ Below w.heap.size w wr)
  case atStart => exact ⟨0, [], rfl, Nat.zero_le _, Nat.le_refl _, Lib.hid (by simp), Hold.nil _ _, Below.refl _ _⟩
  case round =>
    obtain ⟨i, out, rfl, hi, hg, V, H5, B⟩ := hrel
    obtain ⟨p5, c5, rfl⟩ := H5.form
    have hol : out.length ≤ 1000000 := by
      have h1 := List.length_filter_le P (xs.take i)
      have h2 := List.length_take_le i xs
      rw [← V.out] at h1
      have := List.length_take_le' i xs
      omega
    by_cases hlt : i < xs.length
    · have hltz : (i : Int) < (xs.length : Int) := by omega
      obtain ⟨x, hx⟩ := getElem_of_lt hlt
      obtain ⟨b, off, e, c0, c1, rx⟩ := (ha.keep B).at_ hx
      cases e
      have hxm := List.mem_of_getElem? hx
      have hC := hcall _ B x hxm
      have VN := Lib.hid (filter_take (P := P) hx)
      obtain ⟨q, hq⟩ : ∃ q, P x = q := ⟨_, rfl⟩
      rw [hq] at hC VN
      clear hx hq
      unfold rowV at hC
      go_wp2_with fail
      refine hC.mono ?_
      rintro e w5 ⟨rfl, B5⟩
      have R5 := (ha.keep B).keep B5
      replace c0 := cell_keep B5 c0
      replace c1 := cell_keep B5 c1
      have H6 := H5.keep B5
      have B6 := B.trans (B5.mono B.size)
      cases q
      · have VN' := Lib.hid (show out = (xs.take (i + 1)).filter P by rw [VN.out, ← V.out]; simp)
        clear R5
        go_wp2
        go_roundg (xs.length - (i + 1))
        case measure => omega
        case rel => exact ⟨i + 1, out, by go_num, hlt, Nat.le_refl _, VN', H6, B6⟩
      · have VN' := Lib.hid (show out ++ [x] = (xs.take (i + 1)).filter P by rw [VN.out, ← V.out]; simp)
        have hm : IsRows 2 encR (w5.alloc (.cells #[x.av, x.wv] 44)) (.slice (some ⟨w5.heap.size, 0, none⟩) 1 1) [x] := IsRows.lit w5 [_] encsR (by simp)
        have B7 := below_new w5 (.cells #[x.av, x.wv] 44)
        have hmo : ∀ u ∈ [x], Off RowOk (w5.alloc (.cells #[x.av, x.wv] 44)) (Ex (.slice p5 out.length c5) noB) u := fun u hu => by
          rw [List.mem_singleton.1 hu]
          refine Off.old (w := w) (fun a b => rowOk_keep a b x) (ha.2 x hxm) (B6.trans (B7.mono B6.size)) fun k hk => ?_
          rcases hk with hk | hk
          · exact (H6.1.lt k hk).1
          · exact hk.elim
        clear R5
        go_wp2_with (at_builtin; refine wpList_hold fitsR23 encsR rfl _ _ rfl rfl rfl H6 B7 hm hmo B6.size hol (by simp) ?_; intro p9 c9 w9 H9 B9 hG9; rw [show (out ++ [x]).length = out.length + 1 by simp] at H9)
        go_roundg (xs.length - (i + 1))
        case measure => omega
        case rel => exact ⟨i + 1, _, by go_num, hlt, Nat.le_refl _, VN', H9, B6.trans B9⟩
    · have hltz : ¬ (i : Int) < (xs.length : Int) := by omega
      have RES := Lib.hid (show out = xs.filter P by rw [V.out, List.take_of_length_le (by omega)])
      go_wp2
      go_ret
      exact ⟨_, rfl, by rw [← RES.out]; exact H5.rel (by omega), B⟩
end Go.Proofs.YtdibijhaiaiifaaDoor
/- The walk of At. -/
namespace Go.Proofs.YtdibijhaiaiifaaDoor
open Go.RowKit
/-- A tuple in memory. -/
structure TT where
  p : Option Addr
  c : Nat
  t : Tp
abbrev TT.v (x : TT) : Value := .slice x.p x.t.length x.c
def encTT (x : TT) : List Value := [x.v]
def TupOk (w : World) (x : TT) : Prop := IsVals w x.v x.t
theorem tupOk_keep (w w' : World) (x : TT) (h : Below w.heap.size w w') (k : TupOk w x) : TupOk w' x := IsVals.keep k h
theorem encsT : Encs 1 encTT := ⟨fun _ => rfl, fun x u hu => by unfold encTT at hu; simp at hu; subst hu; rfl⟩
theorem fitsT : Fits 36 25 1 24 (.slice none 0 0) := ⟨Tryd.underlying36, by kernel_rfl, by kernel_rfl, by decide, by decide⟩
def IsTups (w : World) (v : Value) (ts : List TT) : Prop := IsRows 1 encTT w v ts ∧ ∀ x ∈ ts, TupOk w x
theorem IsTups.keep {w w' : World} {v : Value} {ts : List TT} (h : IsTups w v ts) (hb : Below w.heap.size w w') : IsTups w' v ts := ⟨h.1.keep (keeps_below hb), fun x hx => tupOk_keep w w' x hb (h.2 x hx)⟩
theorem IsTups.shape {w : World} {v : Value} {ts : List TT} (h : IsTups w v ts) : ∃ a c, v = .slice a ts.length c ∧ ts.length ≤ 9223372036854775807 ∧ ts.length ≤ c ∧ c ≤ 9223372036854775807 := by
  obtain ⟨⟨a, c, e, _, hm⟩, _⟩ := h
  exact ⟨a, c, e, hm⟩
theorem IsTups.at_ {w : World} {a : Option Addr} {n c : Nat} {ts : List TT} (h : IsTups w (.slice a n c) ts) {i : Nat} {x : TT} (hi : ts[i]? = some x) : ∃ b off, a = some ⟨b, off, none⟩ ∧ w.cell? ⟨b, off + i, none⟩ = some x.v ∧ TupOk w x := by
  obtain ⟨⟨a', c', e, hr, hm⟩, h2⟩ := h
  injection e with e1 e2 e3
  subst e1
  obtain ⟨b, off, ha, hc⟩ := hr.at_ hi
  have := hc i x hi 0 _ rfl
  exact ⟨b, off, ha, by simpa using this, h2 x (List.mem_of_getElem? hi)⟩
theorem Hold.tups {w : World} {base : Nat} {v : Value} {l : List TT} {ex : Nat → Prop} (h : Hold 1 25 encTT TupOk ex w base v l) (hm : l.length ≤ 9223372036854775807) : IsTups w v l := ⟨h.1.is encsT hm, fun x hx => Off.here (h.2 x hx)⟩
/-- The tuples at a moment. -/
def AtOf (xs : List RR) (m : Int) (l : List Tp) : Prop := ∃ ys, CanOf xs ys ∧ l = (ys.filter fun y => inSet y.s m).map (·.t)
theorem at1_any (x : RR) (b3 : Nat) (m : Int) (w : World) (hx : RowOk w x) (hb : w.cell? ⟨b3, 0, none⟩ = some (.int .i64 m)) :
    Calls Tryd.prog 88 #[rowV x, .pointer (some ⟨b3, 0, none⟩)] w fun e w' => e = .returned (.bool (inSet x.s m)) ∧ Below w.heap.size w w' := by
  unfold rowV
  have BA := below_new w (.cells #[x.av, x.wv] 44)
  have X := Cel.new w 44 [x.av, x.wv]
  go_enter Tryd.func88, Tryd.ntmps88
  go_upto_region 1 with fail
  obtain ⟨wA, hwA⟩ : ∃ z, w.alloc (.cells #[x.av, x.wv] 44) = z := ⟨_, rfl⟩
  have X' : Cel wA w.heap.size 44 [x.av, x.wv] := by rw [← hwA]; exact X
  rw [hwA] at BA
  rw [hwA]
  clear hwA X
  have q1 := X'.at_ (j := 1) rfl
  replace hb := cell_keep BA hb
  have rA := hx.keep BA
  go_wp2_with fail
  refine (Has_any _ x.s m _ rA.2).mono ?_
  rintro e w1 ⟨rfl, B1⟩
  go_wp2
  go_ret
  exact ⟨rfl, below_trans BA B1⟩
set_option maxHeartbeats 4000000 in
set_option maxRecDepth 1000000 in
theorem AtR_any (va : Value) (xs : List RR) (m : Int) (w : World) (hT : Tab w) (ha : IsRel w va xs) (sa : Sml 10000 xs) :
    Calls Tryd.prog 36 #[va, .int .i64 m] w fun e w' => ∃ u, e = .returned u ∧ ∃ ts, IsTups w' u ts ∧ Hid (AtOf xs m (ts.map (·.t))) ∧ ts.length ≤ xs.length ∧ Below w.heap.size w w' := by
  have HS := Lib.hid sa
  have B1 := below_new w (.cells #[.int .i64 m] 3)
  have X := Cel.new w 3 [.int .i64 m]
  go_enter Tryd.func36, Tryd.ntmps36
  go_upto_region 1 with fail
  obtain ⟨w1, hw1⟩ : ∃ z, w.alloc (.cells #[.int .i64 m] 3) = z := ⟨_, rfl⟩
  have X' : Cel w1 w.heap.size 3 [.int .i64 m] := by rw [← hw1]; exact X
  rw [hw1] at B1
  rw [hw1]
  clear hw1 X
  obtain ⟨b3, hb3⟩ : ∃ b3, w.heap.size = b3 := ⟨_, rfl⟩
  rw [hb3] at X'
  rw [hb3]
  clear hb3
  go_wp2_with fail
  refine (canonical_any va xs _ (hT.keep B1) (ha.keep B1) sa).mono ?_
  rintro e w2 ⟨ua, rfl, al, Ra, Ca, B2⟩
  have hal : al.length ≤ xs.length := (Ca.sml xs.length ⟨Nat.le_refl _, sa.each⟩).len
  have hxl := sa.len
  have HC := Lib.hid Ca
  have R2 := Ra.rel
  obtain ⟨pa, ca, rfl, -⟩ := R2.shape
  clear sa Ca Ra ha
  have X2 := X'.keep B2
  go_wp2_with fail
  refine (filter_any 88 ⟨b3, 0, none⟩ (fun x => inSet x.s m) _ al _ (enters_of Tryd.func88 (by kernel_rfl) rfl) (fun W hW x hx => at1_any x b3 m W ((R2.2 x hx).keep hW) (cell_keep hW (X2.at_ (j := 0) rfl))) R2 (by omega)).mono ?_
  rintro e w3 ⟨uf, rfl, R3, B3⟩
  obtain ⟨L, HL⟩ : ∃ L, Hid (al.filter (fun x => inSet x.s m) = L) := ⟨_, Lib.hid rfl⟩
  have hLl : L.length ≤ al.length := by rw [← HL.out]; exact List.length_filter_le _ _
  rw [HL.out] at R3
  obtain ⟨pf, cf, rfl, -⟩ := R3.shape
  replace B3 := below_trans B1 (below_trans B2 B3)
  clear R2 B1 B2 X' X2
  go_wp2
  go_loopg [5, 13] L.length (fun g v5 vi wr => ∃ (i : Nat) (out : List TT), vi = .int .i64 i ∧ i ≤ L.length ∧ L.length - i ≤ g ∧ Hid (out.map (·.t) = (L.take i).map (·.t)) ∧ out.length = i ∧ Hold 1 25 encTT TupOk noB wr w3.heap.size v5 out ∧ Below w3.heap.size w3 wr)
  case atStart => exact ⟨0, [], rfl, Nat.zero_le _, Nat.le_refl _, Lib.hid (by simp), rfl, Hold.nil _ _, Below.refl _ _⟩
  case round =>
    obtain ⟨i, out, rfl, hi, hg, V, hoi, H5, B⟩ := hrel
    have HO := Lib.hid hoi
    obtain ⟨p5, c5, rfl⟩ := H5.form
    have hol : out.length ≤ 1000000 := by omega
    clear hoi
    by_cases hlt : i < L.length
    · have hltz : (i : Int) < (L.length : Int) := by omega
      obtain ⟨x, hx⟩ := getElem_of_lt hlt
      obtain ⟨b, off, e, c0, c1, -⟩ := (R3.keep B).at_ hx
      cases e
      have rx := R3.2 x (List.mem_of_getElem? hx)
      have VN := Lib.hid (show (out ++ [(⟨x.pa, x.ca, x.t⟩ : TT)]).map (·.t) = (L.take (i + 1)).map (·.t) by rw [take_succ' hx, List.map_append, List.map_append, V.out]; rfl)
      clear hx
      go_upto_region 5 with fail
      have BA := below_new wr (.cells #[x.av, x.wv] 44)
      have X := Cel.new wr 44 [x.av, x.wv]
      obtain ⟨wA, hwA⟩ : ∃ z, wr.alloc (.cells #[x.av, x.wv] 44) = z := ⟨_, rfl⟩
      have X' : Cel wA wr.heap.size 44 [x.av, x.wv] := by rw [← hwA]; exact X
      rw [hwA] at BA
      rw [hwA]
      clear hwA X c0 c1
      have q0 := X'.at_ (j := 0) rfl
      have H6 := H5.keep BA
      have B6 := B.trans (BA.mono B.size)
      have hm : IsRows 1 encTT (wA.alloc (.cells #[x.av] 25)) (.slice (some ⟨wA.heap.size, 0, none⟩) 1 1) [⟨x.pa, x.ca, x.t⟩] := IsRows.lit wA [_] encsT (by simp)
      have B7 := below_new wA (.cells #[x.av] 25)
      have hmo : ∀ u ∈ [(⟨x.pa, x.ca, x.t⟩ : TT)], Off TupOk (wA.alloc (.cells #[x.av] 25)) (Ex (.slice p5 out.length c5) noB) u := fun u hu => by
        rw [List.mem_singleton.1 hu]
        refine Off.old (w := w3) (fun a b => tupOk_keep a b _) rx.1 (B6.trans (B7.mono B6.size)) fun k hk => ?_
        rcases hk with hk | hk
        · exact (H6.1.lt k hk).1
        · exact hk.elim
      go_wp2_with (at_builtin; refine wpList_hold fitsT encsT rfl _ _ rfl rfl rfl H6 B7 hm hmo B6.size hol (by simp) ?_; intro p9 c9 w9 H9 B9 hG9; rw [show (out ++ [(⟨x.pa, x.ca, x.t⟩ : TT)]).length = out.length + 1 by simp] at H9)
      go_roundg (L.length - (i + 1))
      case measure => omega
      case rel => exact ⟨i + 1, out ++ [(⟨x.pa, x.ca, x.t⟩ : TT)], by go_num, hlt, Nat.le_refl _, VN, by rw [List.length_append, HO.out]; rfl, H9, B6.trans B9⟩
    · have hltz : ¬ (i : Int) < (L.length : Int) := by omega
      have RES := Lib.hid (show out.map (·.t) = L.map (·.t) by rw [V.out, List.take_of_length_le (by omega)])
      have RT := H5.tups (by omega)
      go_wp2
      go_ret
      exact ⟨_, rfl, out, RT, Lib.hid ⟨al, HC.out, by rw [RES.out, HL.out]⟩, by rw [HO.out]; omega, B3.trans (B.mono B3.size)⟩
end Go.Proofs.YtdibijhaiaiifaaDoor
/- Equality of values and of strings, as the program tests it. -/
namespace Go.Proofs.YtdibijhaiaiifaaDoor
open Go.RowKit
theorem beq_dec (a b : List UInt8) : (a == b) = decide (a = b) := by rw [Bool.eq_iff_iff]; simp
theorem run_eq_str (a b : List UInt8) (w : World) : (binOp .eql 9 (strV a) (strV b)).run Tryd.prog w = .ok (.bool (decide (a = b))) w := by
  simp [go_sem, strV, beq_dec]
theorem run_neq_str (a b : List UInt8) (w : World) : (binOp .neq 9 (strV a) (strV b)).run Tryd.prog w = .ok (.bool (!decide (a = b))) w := by
  simp [go_sem, strV, beq_dec]
theorem run_neq_vl (x y : Vl) (w : World) : (binOp .neq 58 (valV x) (valV y)).run Tryd.prog w = .ok (.bool (!decide (x = y))) w := by
  have hp : Tryd.prog.stoodInHeld 58 = false := by kernel_rfl
  have hf : Tryd.prog.underlying 58 = some (.struct (Tryd.prog.fieldsOf 58)) := by kernel_rfl
  unfold valV
  rw [run_neq_struct, run_equalIn_agg w 9999 58 _ _ hf hp]
  simp [go_sem, strV, beq_dec]
  by_cases h1 : x.t = y.t
  · by_cases h2 : x.n = y.n
    · by_cases h3 : x.s = y.s
      · simp [Vl.ext' h1 h2 h3]
      · have : x ≠ y := fun e => h3 (by rw [e])
        simp [h1, h2, h3, this]
    · have : x ≠ y := fun e => h2 (by rw [e])
      simp [h1, h2, this]
  · have : x ≠ y := fun e => h1 (by rw [e])
    simp [h1, this]
theorem run_eq_vl (x y : Vl) (w : World) : (binOp .eql 58 (valV x) (valV y)).run Tryd.prog w = .ok (.bool (decide (x = y))) w := by
  have hp : Tryd.prog.stoodInHeld 58 = false := by kernel_rfl
  have hf : Tryd.prog.underlying 58 = some (.struct (Tryd.prog.fieldsOf 58)) := by kernel_rfl
  unfold valV
  rw [run_eql_struct, run_equalIn_agg w 9999 58 _ _ hf hp]
  simp [go_sem, strV, beq_dec]
  by_cases h1 : x.t = y.t
  · by_cases h2 : x.n = y.n
    · by_cases h3 : x.s = y.s
      · simp [Vl.ext' h1 h2 h3]
      · have : x ≠ y := fun e => h3 (by rw [e])
        simp [h1, h2, h3, this]
    · have : x ≠ y := fun e => h2 (by rw [e])
      simp [h1, h2, this]
  · have : x ≠ y := fun e => h1 (by rw [e])
    simp [h1, this]
theorem run_guard_vl (op : BinOp) (x y : Operand) (u v : Array Value) (w : World) : (eqGuard op 58 x y (.agg u) (.agg v)).run Tryd.prog w = .ok () w := run_eqGuard_agg w op 58 x y u v (by kernel_rfl)
end Go.Proofs.YtdibijhaiaiifaaDoor
/- The walk of Select. -/
namespace Go.Proofs.YtdibijhaiaiifaaDoor
open Go.RowKit
/-- A term: a variable's name, or none and a value. -/
structure Tm where
  v : List UInt8
  c : Vl
  ok : v.length ≤ 9223372036854775807
def encTm (m : Tm) : List Value := [strV m.v, .int .i64 m.c.t, .int .i64 m.c.n, strV m.c.s]
theorem encsTm : Encs 4 encTm := ⟨fun _ => rfl, fun x u hu => by unfold encTm at hu; simp at hu; rcases hu with rfl | rfl | rfl | rfl <;> rfl⟩
def IsTerms (w : World) (v : Value) (ts : List Tm) : Prop := IsRows 4 encTm w v ts
theorem IsTerms.keep {w w' : World} {v : Value} {ts : List Tm} (h : IsTerms w v ts) (hb : Below w.heap.size w w') : IsTerms w' v ts := IsRows.keep h (keeps_below hb)
theorem IsTerms.shape {w : World} {v : Value} {ts : List Tm} (h : IsTerms w v ts) : ∃ a c, v = .slice a ts.length c ∧ ts.length ≤ 9223372036854775807 := by
  obtain ⟨a, c, e, _, hm⟩ := h
  exact ⟨a, c, e, hm.1⟩
theorem IsTerms.at_ {w : World} {a : Option Addr} {n c : Nat} {ts : List Tm} (h : IsTerms w (.slice a n c) ts) {i : Nat} {m : Tm} (hi : ts[i]? = some m) :
    ∃ b off, a = some ⟨b, off, none⟩ ∧ w.cell? ⟨b, off + i * 4, none⟩ = some (strV m.v) ∧ w.cell? ⟨b, off + i * 4 + 1, none⟩ = some (.int .i64 m.c.t) ∧ w.cell? ⟨b, off + i * 4 + 2, none⟩ = some (.int .i64 m.c.n) ∧ w.cell? ⟨b, off + i * 4 + 3, none⟩ = some (strV m.c.s) := by
  obtain ⟨a', c', e, hr, hm⟩ := h
  injection e with e1 e2 e3
  subst e1
  obtain ⟨b, off, ha, hc⟩ := hr.at_ hi
  have hc := hc i m hi
  exact ⟨b, off, ha, hc 0 _ rfl, hc 1 _ rfl, hc 2 _ rfl, hc 3 _ rfl⟩
/-- The first term with a variable's name. -/
def firstOf (ts : List Tm) (v : List UInt8) : Nat := ts.findIdx fun u => decide (u.v = v)
theorem firstOf_le {ts : List Tm} {i : Nat} {m : Tm} (h : ts[i]? = some m) : firstOf ts m.v ≤ i := by
  obtain ⟨hl, e⟩ := List.getElem?_eq_some_iff.1 h
  refine Nat.not_lt.1 fun hlt => ?_
  have := List.not_of_lt_findIdx hlt
  rw [e] at this
  simp at this
/-- Whether the term at i lets a tuple pass. -/
def okAt (ts : List Tm) (t : Tp) (i : Nat) : Bool := match ts[i]?, t[i]? with
  | some m, some y => if m.v = [] then decide (y = m.c) else decide (t[firstOf ts m.v]? = some y)
  | _, _ => false
def matchL (ts : List Tm) (t : Tp) : Bool := decide (t.length = ts.length) && (List.range ts.length).all (okAt ts t)
theorem okAt_const {ts : List Tm} {t : Tp} {i : Nat} {m : Tm} {y : Vl} (h : ts[i]? = some m) (k : t[i]? = some y) (hv : m.v = []) : okAt ts t i = decide (y = m.c) := by unfold okAt; rw [h, k]; simp [hv]
theorem okAt_var {ts : List Tm} {t : Tp} {i : Nat} {m : Tm} {y z : Vl} (h : ts[i]? = some m) (k : t[i]? = some y) (hv : m.v ≠ []) (hz : t[firstOf ts m.v]? = some z) : okAt ts t i = decide (z = y) := by unfold okAt; rw [h, k]; simp [hv, hz]
theorem match_not {ts : List Tm} {t : Tp} {i : Nat} (hi : i < ts.length) (h : okAt ts t i = false) : matchL ts t = false := by
  unfold matchL
  rw [Bool.and_eq_false_iff]
  refine .inr ?_
  rw [List.all_eq_false]
  exact ⟨i, List.mem_range.2 hi, by rw [h]; simp⟩
theorem match_all {ts : List Tm} {t : Tp} (hl : t.length = ts.length) (h : ∀ j, j < ts.length → okAt ts t j = true) : matchL ts t = true := by
  unfold matchL
  rw [decide_eq_true hl, Bool.true_and, List.all_eq_true]
  exact fun j hj => h j (List.mem_range.1 hj)
theorem sel11_any (u : Tm) (b5 : Nat) (l : List UInt8) (w : World) (hb : w.cell? ⟨b5, 0, none⟩ = some (strV l)) :
    Calls Tryd.prog 92 #[.agg #[strV u.v, .int .i64 u.c.t, .int .i64 u.c.n, strV u.c.s], .pointer (some ⟨b5, 0, none⟩)] w fun e w' => e = .returned (.bool (decide (u.v = l))) ∧ Below w.heap.size w w' := by
  have BA := below_new w (.cells #[strV u.v, .int .i64 u.c.t, .int .i64 u.c.n, strV u.c.s] 60)
  have X := Cel.new w 60 [strV u.v, .int .i64 u.c.t, .int .i64 u.c.n, strV u.c.s]
  go_enter Tryd.func92, Tryd.ntmps92
  go_upto_region 1 with fail
  obtain ⟨wA, hwA⟩ : ∃ z, w.alloc (.cells #[strV u.v, .int .i64 u.c.t, .int .i64 u.c.n, strV u.c.s] 60) = z := ⟨_, rfl⟩
  have X' : Cel wA w.heap.size 60 [strV u.v, .int .i64 u.c.t, .int .i64 u.c.n, strV u.c.s] := by rw [← hwA]; exact X
  rw [hwA] at BA
  rw [hwA]
  clear hwA X
  have q0 := X'.at_ (j := 0) rfl
  replace hb := cell_keep BA hb
  go_wp2
  go_ret
  exact ⟨by rw [← beq_dec]; rfl, BA⟩
set_option maxHeartbeats 4000000 in
set_option maxRecDepth 1000000 in
theorem indexTm_any (va : Value) (ts : List Tm) (b5 : Nat) (l : List UInt8) (f : Nat) (w : World) (h : IsTerms w va ts) (hb : w.cell? ⟨b5, 0, none⟩ = some (strV l)) (hf : f = firstOf ts l) (hfl : f < ts.length) :
    Calls Tryd.prog 91 #[va, .func (.func 92) #[] #[.pointer (some ⟨b5, 0, none⟩)]] w fun e w' => e = .returned (.int .i64 f) ∧ Below w.heap.size w w' := by
  have HF := Lib.hid hf
  clear hf
  obtain ⟨pa, pc, rfl, hm⟩ := h.shape
  go_enter Tryd.func91, Tryd.ntmps91
  go_wp2
  go_loopg [8] ts.length (fun g vi wr => ∃ (i : Nat), vi = .int .i64 i ∧ i ≤ f ∧ ts.length - i ≤ g ∧ Below w.heap.size w wr)
  case atStart => exact ⟨0, rfl, Nat.zero_le _, Nat.le_refl _, Below.refl _ _⟩
  case round =>
    obtain ⟨i, rfl, hi, hg, B⟩ := hrel
    have hlt : i < ts.length := by omega
    have hltz : (i : Int) < (ts.length : Int) := by omega
    obtain ⟨m, hx⟩ := getElem_of_lt hlt
    obtain ⟨b, off, e, c0, c1, c2, c3⟩ := (h.keep B).at_ hx
    cases e
    have hC := sel11_any m b5 l wr (cell_keep B hb)
    have HX := Lib.hid hx
    clear hx
    go_wp2_with fail
    refine hC.mono ?_
    rintro e w5 ⟨rfl, B5⟩
    have B6 := B.trans (B5.mono B.size)
    by_cases hif : i = f
    · have hd : decide (m.v = l) = true := by
        have h1 := List.findIdx_getElem (xs := ts) (p := fun u => decide (u.v = l)) (w := by have := HF.out; unfold firstOf at this; rw [← this]; exact hfl)
        have h2 : ts[ts.findIdx (fun u => decide (u.v = l))]? = some m := by have := HF.out; unfold firstOf at this; rw [← this, ← hif]; exact HX.out
        obtain ⟨h3, h4⟩ := List.getElem?_eq_some_iff.1 h2
        rw [h4] at h1
        exact h1
      subst hif
      rw [hd]
      clear hC c0 c1 c2 c3
      go_wp2
      go_ret
      exact ⟨rfl, B6⟩
    · have hd : decide (m.v = l) = false := by
        have h1 := List.not_of_lt_findIdx (xs := ts) (p := fun u => decide (u.v = l)) (i := i) (by have := HF.out; unfold firstOf at this; omega)
        obtain ⟨h3, h4⟩ := List.getElem?_eq_some_iff.1 HX.out
        rw [h4] at h1
        simpa using h1
      rw [hd]
      clear hC c0 c1 c2 c3
      go_wp2
      go_roundg (ts.length - (i + 1))
      case measure => omega
      case rel => exact ⟨i + 1, by go_num, by omega, Nat.le_refl _, B6⟩
set_option maxHeartbeats 4000000 in
set_option maxRecDepth 1000000 in
theorem sel1_any (x : RR) (b3 : Nat) (va : Value) (ts : List Tm) (w : World) (hx : RowOk w x) (h : IsTerms w va ts) (hb : w.cell? ⟨b3, 0, none⟩ = some va) :
    Calls Tryd.prog 90 #[rowV x, .pointer (some ⟨b3, 0, none⟩)] w fun e w' => e = .returned (.bool (matchL ts x.t)) ∧ Below w.heap.size w w' := by
  unfold rowV
  obtain ⟨pa, pc, rfl, hm⟩ := h.shape
  have BA := below_new w (.cells #[x.av, x.wv] 44)
  have X := Cel.new w 44 [x.av, x.wv]
  go_enter Tryd.func90, Tryd.ntmps90
  go_upto_region 1 with fail
  obtain ⟨wA, hwA⟩ : ∃ z, w.alloc (.cells #[x.av, x.wv] 44) = z := ⟨_, rfl⟩
  have X' : Cel wA w.heap.size 44 [x.av, x.wv] := by rw [← hwA]; exact X
  rw [hwA] at BA
  rw [hwA]
  clear hwA X
  have rA := hx.keep BA
  replace hb := cell_keep BA hb
  replace h := h.keep BA
  have q0 := X'.at_ (j := 0) rfl
  obtain ⟨nt, hnt⟩ : ∃ nt, x.t.length = nt := ⟨_, rfl⟩
  obtain ⟨xp, xc, hxv, hmv⟩ : ∃ xp xc, x.av = .slice xp nt xc ∧ nt ≤ 9223372036854775807 := by
    obtain ⟨a, c, e, _, hm⟩ := rA.vals
    exact ⟨a, c, by rw [e, hnt], by omega⟩
  rw [hxv] at q0 X'
  have HXV := Lib.hid hxv
  clear hxv
  by_cases hl : nt = ts.length
  · have hne : ((nt : Int) != (ts.length : Int)) = false := by rw [hl]; simp
    have HL := Lib.hid (hnt.trans hl)
    have HNT := Lib.hid hnt
    have HLE := Lib.hid hl
    have hl1 : nt ≤ ts.length := by omega
    have hl2 : ts.length ≤ nt := by omega
    clear hl hnt
    go_wp2
    go_loopg [15] ts.length (fun g vi wr => ∃ (i : Nat), vi = .int .i64 i ∧ i ≤ ts.length ∧ ts.length - i ≤ g ∧ Hid (∀ j, j < i → okAt ts x.t j = true) ∧ Below wA.heap.size wA wr)
    case atStart => exact ⟨0, rfl, Nat.zero_le _, Nat.le_refl _, Lib.hid (by omega), Below.refl _ _⟩
    case round =>
      obtain ⟨i, rfl, hi, hg, V, B⟩ := hrel
      by_cases hlt : i < ts.length
      · have hltz : (i : Int) < (ts.length : Int) := by omega
        obtain ⟨m, hx2⟩ := getElem_of_lt hlt
        obtain ⟨b, off, e, c0, c1, c2, c3⟩ := (h.keep B).at_ hx2
        cases e
        have q0r := cell_keep B q0
        have hbr := cell_keep B hb
        have hvr := rA.vals.keep B
        go_upto_region 6 with fail
        have BB := below_new wr (.cells #[strV m.v, .int .i64 m.c.t, .int .i64 m.c.n, strV m.c.s] 60)
        have Y := Cel.new wr 60 [strV m.v, .int .i64 m.c.t, .int .i64 m.c.n, strV m.c.s]
        obtain ⟨wB, hwB⟩ : ∃ z, wr.alloc (.cells #[strV m.v, .int .i64 m.c.t, .int .i64 m.c.n, strV m.c.s] 60) = z := ⟨_, rfl⟩
        have Y' : Cel wB wr.heap.size 60 [strV m.v, .int .i64 m.c.t, .int .i64 m.c.n, strV m.c.s] := by rw [← hwB]; exact Y
        rw [hwB] at BB
        rw [hwB]
        clear hwB Y c0 c1 c2 c3
        rw [HXV.out] at hvr
        have hin : (i : Int) < (nt : Int) := by omega
        obtain ⟨_, _, e, hrv, -⟩ := hvr
        injection e with e1 e2 e3
        subst e1 e3
        obtain ⟨y, hy⟩ := getElem_of_lt (l := x.t) (i := i) (by have := HL.out; omega)
        have hfi : firstOf ts m.v ≤ i := firstOf_le hx2
        obtain ⟨f, hf⟩ : ∃ f, firstOf ts m.v = f := ⟨_, rfl⟩
        rw [hf] at hfi
        obtain ⟨z, hz⟩ := getElem_of_lt (l := x.t) (i := f) (by have := HL.out; omega)
        obtain ⟨vb, vo, rfl, d0, d1, d2⟩ := vals_at hrv hy
        obtain ⟨_, _, e, g0, g1, g2⟩ := vals_at hrv hz
        cases e
        have OC := Lib.hid (fun hv : m.v = [] => okAt_const hx2 hy hv)
        have OV := Lib.hid (fun hv : m.v ≠ [] => okAt_var hx2 hy hv (by rw [hf]; exact hz))
        have MN := Lib.hid (fun h0 : okAt ts x.t i = false => match_not hlt h0)
        have HF := Lib.hid hf
        clear hy hz hx2 hf hrv e2
        replace d0 := cell_keep BB d0
        replace d1 := cell_keep BB d1
        replace d2 := cell_keep BB d2
        replace g0 := cell_keep BB g0
        replace g1 := cell_keep BB g1
        replace g2 := cell_keep BB g2
        replace q0r := cell_keep BB q0r
        replace hbr := cell_keep BB hbr
        have y0 := Y'.at_ (j := 0) rfl
        have y1 := Y'.at_ (j := 1) rfl
        have y2 := Y'.at_ (j := 2) rfl
        have y3 := Y'.at_ (j := 3) rfl
        have B2 := B.trans (BB.mono B.size)
        have hB2 := h.keep B2
        have hgd := run_guard_vl .neq
        obtain ⟨mv, mc, mok⟩ := m
        dsimp only at *
        cases mv with
        | nil =>
          obtain ⟨q, hq⟩ : ∃ q, (!decide (y = mc)) = q := ⟨_, rfl⟩
          have hqr : ∀ w, (binOp .neq 58 (.agg #[.int .i64 y.t, .int .i64 y.n, strV y.s]) (.agg #[.int .i64 mc.t, .int .i64 mc.n, strV mc.s])).run Tryd.prog w = .ok (.bool q) w := fun w => by rw [← hq]; exact run_neq_vl y mc w
          have HQ := Lib.hid (show okAt ts x.t i = !q by rw [OC.out rfl, ← hq]; simp)
          clear hq
          cases q with
          | true =>
            have a_d0 := AftB.cell d0
            have a_d1 := AftB.cell d1
            have a_d2 := AftB.cell d2
            have a_g0 := AftB.cell g0
            have a_g1 := AftB.cell g1
            have a_g2 := AftB.cell g2
            have a_q0r := AftB.cell q0r
            have a_hbr := AftB.cell hbr
            have a_y0 := AftB.cell y0
            have a_y1 := AftB.cell y1
            have a_y2 := AftB.cell y2
            have a_y3 := AftB.cell y3
            go_upto_region 6 with fail
            refine wp_region_aftB (by kernel_rfl) (by kernel_rfl) ?_
            repeat (quiet_step (fail))
            refine wpQuiet_nil ?_
            intro w5 B5
            clear a_d0 a_d1 a_d2 a_g0 a_g1 a_g2 a_q0r a_hbr a_y0 a_y1 a_y2 a_y3
            have RES := Lib.hid (MN.out (by rw [HQ.out]; rfl))
            clear d0 d1 d2 g0 g1 g2 q0r hbr y0 y1 y2 y3 hgd hqr
            go_wp2
            go_ret
            exact ⟨by rw [RES.out]; rfl, below_trans BA (B2.trans (B5.mono B2.size))⟩
          | false =>
            have a_d0 := AftB.cell d0
            have a_d1 := AftB.cell d1
            have a_d2 := AftB.cell d2
            have a_g0 := AftB.cell g0
            have a_g1 := AftB.cell g1
            have a_g2 := AftB.cell g2
            have a_q0r := AftB.cell q0r
            have a_hbr := AftB.cell hbr
            have a_y0 := AftB.cell y0
            have a_y1 := AftB.cell y1
            have a_y2 := AftB.cell y2
            have a_y3 := AftB.cell y3
            go_upto_region 6 with fail
            refine wp_region_aftB (by kernel_rfl) (by kernel_rfl) ?_
            repeat (quiet_step (fail))
            refine wpQuiet_nil ?_
            intro w5 B5
            clear a_d0 a_d1 a_d2 a_g0 a_g1 a_g2 a_q0r a_hbr a_y0 a_y1 a_y2 a_y3
            have OK := Lib.hid (show ∀ j, j < i + 1 → okAt ts x.t j = true from fun j hj => by
              rcases Nat.lt_or_eq_of_le (Nat.le_of_lt_succ hj) with hj | rfl
              · exact V.out j hj
              · rw [HQ.out]; rfl)
            replace hbr := cell_keep B5 hbr
            replace y0 := cell_keep B5 y0
            replace q0r := cell_keep B5 q0r
            go_wp2_with fail
            refine (indexTm_any _ ts wr.heap.size [] f _ (hB2.keep B5) y0 HF.out.symm (by omega)).mono ?_
            rintro e w6 ⟨rfl, B6⟩
            replace y0 := cell_keep B6 y0
            have B7 := B2.trans ((below_trans B5 B6).mono B2.size)
            clear d0 d1 d2 g0 g1 g2 hgd hqr y1 y2 y3 hbr q0r
            go_upto_region 9 with fail
            go_region
            have B8 : Below w6.heap.size w6 w6.drew := (Below.refl _ _).drew
            generalize World.drew _ = w8 at B8 ⊢
            clear y0
            go_wp2
            go_roundg (ts.length - (i + 1))
            case measure => omega
            case rel => exact ⟨i + 1, by go_num, hlt, Nat.le_refl _, OK, B7.trans (B8.mono B7.size)⟩
        | cons c0 cs =>
          obtain ⟨q, hq⟩ : ∃ q, (!decide (z = y)) = q := ⟨_, rfl⟩
          have hqr : ∀ w, (binOp .neq 58 (.agg #[.int .i64 z.t, .int .i64 z.n, strV z.s]) (.agg #[.int .i64 y.t, .int .i64 y.n, strV y.s])).run Tryd.prog w = .ok (.bool q) w := fun w => by rw [← hq]; exact run_neq_vl z y w
          have HQ := Lib.hid (show okAt ts x.t i = !q by rw [OV.out (by simp), ← hq]; simp)
          clear hq
          go_upto_region 6 with fail
          go_region
          have B5 : Below wB.heap.size wB wB.drew := (Below.refl _ _).drew
          generalize World.drew _ = w5 at B5 ⊢
          replace hbr := cell_keep B5 hbr
          replace y0 := cell_keep B5 y0
          replace q0r := cell_keep B5 q0r
          go_wp2_with fail
          refine (indexTm_any _ ts wr.heap.size (c0 :: cs) f _ (hB2.keep B5) y0 HF.out.symm (by omega)).mono ?_
          rintro e w6 ⟨rfl, B6⟩
          have B56 := below_trans B5 B6
          replace y0 := cell_keep B6 y0
          replace q0r := cell_keep B6 q0r
          replace d0 := cell_keep B56 d0
          replace d1 := cell_keep B56 d1
          replace d2 := cell_keep B56 d2
          replace g0 := cell_keep B56 g0
          replace g1 := cell_keep B56 g1
          replace g2 := cell_keep B56 g2
          have B7 := B2.trans (B56.mono B2.size)
          clear y1 y2 y3 hbr
          have a_d0 := AftB.cell d0
          have a_d1 := AftB.cell d1
          have a_d2 := AftB.cell d2
          have a_g0 := AftB.cell g0
          have a_g1 := AftB.cell g1
          have a_g2 := AftB.cell g2
          have a_q0r := AftB.cell q0r
          have a_y0 := AftB.cell y0
          have f1 : (f : Int) < (nt : Int) := by omega
          have f2 : (i : Int) < (nt : Int) := by omega
          go_upto_region 9 with fail
          refine wp_region_aftB (by kernel_rfl) (by kernel_rfl) ?_
          repeat (quiet_step (fail))
          refine wpQuiet_nil ?_
          intro w8 B8
          clear a_d0 a_d1 a_d2 a_g0 a_g1 a_g2 a_q0r a_y0 d0 d1 d2 g0 g1 g2 q0r y0 hgd hqr
          cases q
          · have OK := Lib.hid (show ∀ j, j < i + 1 → okAt ts x.t j = true from fun j hj => by
              rcases Nat.lt_or_eq_of_le (Nat.le_of_lt_succ hj) with hj | rfl
              · exact V.out j hj
              · rw [HQ.out]; rfl)
            go_wp2
            go_roundg (ts.length - (i + 1))
            case measure => omega
            case rel => exact ⟨i + 1, by go_num, hlt, Nat.le_refl _, OK, B7.trans (B8.mono B7.size)⟩
          · have RES := Lib.hid (MN.out (by rw [HQ.out]; rfl))
            go_wp2
            go_ret
            exact ⟨by rw [RES.out]; rfl, below_trans BA (B7.trans (B8.mono B7.size))⟩
      · have hltz : ¬ (i : Int) < (ts.length : Int) := by omega
        have RES := Lib.hid (match_all HL.out fun j hj => V.out j (by omega))
        go_wp2
        go_ret
        exact ⟨by rw [RES.out]; rfl, below_trans BA B⟩
  · have hne : ((nt : Int) != (ts.length : Int)) = true := by rw [bne_iff_ne]; omega
    have RES := Lib.hid (show matchL ts x.t = false by unfold matchL; rw [hnt, decide_eq_false hl, Bool.false_and])
    clear hnt
    go_wp2
    go_ret
    exact ⟨by rw [RES.out]; rfl, BA⟩
theorem Sml.filter {n : Nat} {xs : List RR} (h : Sml n xs) (P : RR → Bool) : Sml n (xs.filter P) := ⟨Nat.le_trans (List.length_filter_le _ _) h.len, fun x hx => h.each x (List.mem_filter.1 hx).1⟩
theorem SelectR_any (va vt : Value) (xs : List RR) (ts : List Tm) (w : World) (hT : Tab w) (ha : IsRel w va xs) (ht : IsTerms w vt ts) (sa : Sml 10000 xs) :
    Calls Tryd.prog 39 #[va, vt] w fun e w' => ∃ u, e = .returned u ∧ ∃ zs, IsRelF w' w.heap.size u zs ∧ CanOf (xs.filter fun x => matchL ts x.t) zs ∧ Below w.heap.size w w' := by
  obtain ⟨pt, pc, rfl, -⟩ := ht.shape
  have B1 := below_new w (.cells #[.slice pt ts.length pc] 39)
  have X := Cel.new w 39 [.slice pt ts.length pc]
  go_enter Tryd.func39, Tryd.ntmps39
  go_upto_region 1 with fail
  obtain ⟨w1, hw1⟩ : ∃ z, w.alloc (.cells #[.slice pt ts.length pc] 39) = z := ⟨_, rfl⟩
  have X' : Cel w1 w.heap.size 39 [.slice pt ts.length pc] := by rw [← hw1]; exact X
  rw [hw1] at B1
  rw [hw1]
  clear hw1 X
  obtain ⟨b3, hb3⟩ : ∃ b3, w.heap.size = b3 := ⟨_, rfl⟩
  rw [hb3] at X'
  rw [hb3]
  have HB3 := Lib.hid hb3
  clear hb3
  have ha1 := ha.keep B1
  have ht1 := ht.keep B1
  have hT1 := hT.keep B1
  have hxl := sa.len
  go_wp2_with fail
  refine (filter_any 90 ⟨b3, 0, none⟩ (fun x => matchL ts x.t) _ xs _ (enters_of Tryd.func90 (by kernel_rfl) rfl) (fun W hW x hx => sel1_any x b3 _ ts W ((ha1.2 x hx).keep hW) (ht1.keep hW) (cell_keep hW (X'.at_ (j := 0) rfl))) ha1 (by omega)).mono ?_
  rintro e w2 ⟨uf, rfl, R2, B2⟩
  have SF := sa.filter (fun x => matchL ts x.t)
  obtain ⟨L, hL⟩ : ∃ L, xs.filter (fun x => matchL ts x.t) = L := ⟨_, rfl⟩
  rw [hL] at SF R2
  have HL := Lib.hid hL
  clear hL
  go_wp2_with fail
  refine (canonical_any _ L _ (hT1.keep B2) R2 SF).mono ?_
  rintro e w3 ⟨uc, rfl, zs, h1, h2, B3⟩
  have B12 := below_trans B1 B2
  go_wp2
  go_ret
  exact ⟨uc, rfl, zs, h1.mono (by have := B12.size; have := HB3.out; omega), by rw [HL.out]; exact h2, below_trans B12 B3⟩
end Go.Proofs.YtdibijhaiaiifaaDoor
/- The walks of the given program's Valid of a value. -/
namespace Go.Proofs.YtdibijhaiaiifaaDoor
open Go.RowKit
def ltrI (n : Int) : Bool := (decide (97 ≤ n) && decide (n ≤ 122)) || (decide (65 ≤ n) && decide (n ≤ 90)) || (decide (48 ≤ n) && decide (n ≤ 57)) || decide (n = 95)
def isLetter (c : UInt8) : Bool := ltrI c.toNat
def headOk (l : List UInt8) : Bool := decide (1 ≤ l.length) && decide (l.length ≤ 16) && (match l with | c :: _ => decide (97 ≤ c.toNat) && decide (c.toNat ≤ 122) | [] => false)
def symB (l : List UInt8) : Bool := headOk l && l.all isLetter && decide (l ∉ keyWords)
def validV (x : Vl) : Bool := if x.t = 1 then decide (0 ≤ x.n) && decide (x.n ≤ 9999) && decide (x.s = []) else decide (x.t = 2) && decide (x.n = 0) && symB x.s
set_option maxHeartbeats 1000000 in
theorem odd_any (n : Int) (w : World) : Calls Tryd.prog 140 #[.int .i32 n] w fun e w' => e = .returned (.bool (!ltrI n)) ∧ w = w' := by
  have HL := Lib.hid (show ltrI n = ((decide (97 ≤ n) && decide (n ≤ 122)) || (decide (65 ≤ n) && decide (n ≤ 90)) || (decide (48 ≤ n) && decide (n ≤ 57)) || decide (n = 95)) from rfl)
  go_enter Tryd.func140, Tryd.ntmps140
  go_wp2
  all_goals
    go_ret
    refine ⟨ret_bool ?_, rfl⟩
    rw [HL.out, Bool.eq_iff_iff]
    simp
    omega
theorem ltr_low {c : UInt8} (h : isLetter c = true) : c.toNat < 128 := by
  unfold isLetter ltrI at h
  simp at h
  omega
theorem ltr_high {n : Int} (h : 128 ≤ n) : ltrI n = false := by
  unfold ltrI
  rw [decide_eq_false (show ¬ n ≤ 122 by omega), decide_eq_false (show ¬ n ≤ 90 by omega), decide_eq_false (show ¬ n ≤ 57 by omega), decide_eq_false (show ¬ n = 95 by omega)]
  simp
theorem dec_letter (s : ByteArray) (k : Nat) (hp : k < s.size) : ltrI ((Utf8.decode s k).1 : Int) = isLetter (s[k]'hp) ∧ (isLetter (s[k]'hp) = true → (Utf8.decode s k).2 = 1) := by
  by_cases ha : (s[k]'hp).toNat < 128
  · rw [decode_ascii s k hp ha]
    exact ⟨rfl, fun _ => rfl⟩
  · have hh := decode_high s k hp (by omega)
    have h2 : isLetter (s[k]'hp) = false := by
      unfold isLetter
      exact ltr_high (by omega)
    rw [h2]
    exact ⟨ltr_high (by omega), fun h => by cases h⟩
set_option maxHeartbeats 2000000 in
set_option maxRecDepth 1000000 in
theorem indexOdd_any (l : List UInt8) (w : World) :
    Calls Tryd.prog 154 #[strV l, .func (.func 140) #[] #[], .bool true] w fun e w' => (∃ i : Int, e = .returned (.int .i64 i) ∧ (0 ≤ i ↔ l.all isLetter = false)) ∧ Below w.heap.size w w' := by
  go_enter Tryd.func154, Tryd.ntmps154
  obtain ⟨s, hs⟩ : ∃ s : ByteArray, s = ⟨l.toArray⟩ := ⟨_, rfl⟩
  have hsz : s.size = l.length := by rw [hs]; rfl
  have HG := Lib.hid (show ∀ k (h : k < s.size), ∃ hk : k < l.length, s[k]'h = l[k] from fun k h => ⟨by omega, by subst hs; rfl⟩)
  have HSV : strV l = .string s := by rw [hs]
  rw [HSV]
  clear hs HSV
  have HSZ := Lib.hid hsz
  have hz1 : s.size ≤ l.length := by omega
  have hz2 : l.length ≤ s.size := by omega
  clear hsz
  go_wp2
  go_loopg [7] l.length (fun g v7 wr => ∃ k : Nat, wr = w.iter s k ∧ k ≤ l.length ∧ l.length - k ≤ g ∧ Hid ((l.take k).all isLetter = true))
  case atStart => exact ⟨0, rfl, Nat.zero_le _, Nat.le_refl _, Lib.hid rfl⟩
  case round =>
    obtain ⟨k, rfl, hk, hg, V⟩ := hrel
    have BI : Below w.heap.size w (w.iter s k) := below_new w _
    by_cases hp : k < s.size
    · have hkl : k < l.length := by omega
      have hnx : ∀ ty, (Instr.next (.pointer (some ⟨w.heap.size, 0, none⟩)) true ty).run Tryd.prog (w.iter s k) = _ := fun ty => run_next_any w s k ty hp
      have hdl := dec_letter s k hp
      obtain ⟨⟨r, wd⟩, hd⟩ : ∃ p, Utf8.decode s k = p := ⟨_, rfl⟩
      rw [hd] at hnx hdl
      obtain ⟨hk', e'⟩ := HG.out k hp
      rw [e'] at hdl
      have HL := Lib.hid hdl
      clear hdl e'
      have HT := Lib.hid (show (l.take (k + 1)).all isLetter = ((l.take k).all isLetter && isLetter l[k]) by rw [List.take_succ_eq_append_getElem hkl, List.all_append]; simp)
      have HM := Lib.hid (List.getElem_mem hkl)
      generalize l[k] = c at *
      dsimp only at hnx
      clear hd
      go_wp2_with fail
      refine (odd_any _ _).mono ?_
      rintro e w5 ⟨rfl, rfl⟩
      rw [HL.out.1]
      cases hc : isLetter c
      · have RES := Lib.hid (show l.all isLetter = false by rw [List.all_eq_false]; exact ⟨c, HM.out, by rw [hc]; simp⟩)
        clear hc
        go_wp2
        go_ret
        exact ⟨⟨_, rfl, ⟨fun _ => RES.out, fun _ => by omega⟩⟩, below_new w _⟩
      · obtain rfl := HL.out.2 hc
        have VN := Lib.hid (show (l.take (k + 1)).all isLetter = true by rw [HT.out, V.out, hc]; rfl)
        clear hc
        go_wp2
        go_roundg (l.length - (k + 1))
        case measure => omega
        case rel => exact ⟨k + 1, rfl, hkl, Nat.le_refl _, VN⟩
    · have hnx : ∀ ty, (Instr.next (.pointer (some ⟨w.heap.size, 0, none⟩)) true ty).run Tryd.prog (w.iter s k) = _ := fun ty => run_next_end w s k ty hp
      have RES := Lib.hid (show l.all isLetter = true by have := V.out; rwa [List.take_of_length_le (by omega)] at this)
      go_wp2
      go_ret
      exact ⟨⟨_, rfl, ⟨fun h => by omega, fun h => by rw [RES.out] at h; cases h⟩⟩, BI⟩
theorem indexFn_any (l : List UInt8) (w : World) : Calls Tryd.prog 149 #[strV l, .func (.func 140) #[] #[]] w fun e w' => (∃ i : Int, e = .returned (.int .i64 i) ∧ (0 ≤ i ↔ l.all isLetter = false)) ∧ Below w.heap.size w w' := by
  go_enter Tryd.func149, Tryd.ntmps149
  go_wp2_with fail
  refine (indexOdd_any l _).mono ?_
  rintro e w1 ⟨⟨i, rfl, hi⟩, B⟩
  have HI := Lib.hid hi
  clear hi
  go_wp2
  go_ret
  exact ⟨⟨i, rfl, HI.out⟩, B⟩
theorem hasOdd_any (l : List UInt8) (w : World) : Calls Tryd.prog 141 #[strV l, .func (.func 140) #[] #[]] w fun e w' => e = .returned (.bool (!l.all isLetter)) ∧ Below w.heap.size w w' := by
  go_enter Tryd.func141, Tryd.ntmps141
  go_wp2_with fail
  refine (indexFn_any l _).mono ?_
  rintro e w1 ⟨⟨i, rfl, hi⟩, B⟩
  have HI := Lib.hid (show decide (0 ≤ i) = !l.all isLetter by
    rw [Bool.eq_iff_iff, decide_eq_true_iff, hi]; simp)
  clear hi
  go_wp2
  go_ret
  exact ⟨by rw [← HI.out]; rfl, B⟩
set_option maxHeartbeats 1000000 in
theorem indexKey_any (l : List UInt8) (w : World) (hT : Tab w) : Calls Tryd.prog 148 #[.slice (some ⟨0, 0, none⟩) 10 10, strV l] w fun e w' => (∃ i : Int, e = .returned (.int .i64 i) ∧ (0 ≤ i ↔ l ∈ keyWords)) ∧ w = w' := by
  have HK := Lib.hid (show keyWords.length = 10 from rfl)
  go_enter Tryd.func148, Tryd.ntmps148
  go_wp2
  go_loopg [8] 10 (fun g vi wr => ∃ k : Nat, w = wr ∧ vi = .int .i64 k ∧ k ≤ 10 ∧ 10 - k ≤ g ∧ Hid (∀ j, j < k → keyWords.getD j [] ≠ l))
  case atStart => exact ⟨0, rfl, rfl, Nat.zero_le _, Nat.le_refl _, Lib.hid fun j hj => by omega⟩
  case round =>
    obtain ⟨k, rfl, rfl, hk, hg, V⟩ := hrel
    by_cases hlt : k < 10
    · have hltz : (k : Int) < 10 := by omega
      have c0 := hT.2 k hlt
      obtain ⟨kw, hkw⟩ : ∃ kw, keyWords.getD k [] = kw := ⟨_, rfl⟩
      rw [hkw] at c0
      have HKW := Lib.hid hkw
      clear hkw
      by_cases he : l = kw
      · have hq : (l == kw) = true := by rw [he]; simp
        have HM := Lib.hid (show l ∈ keyWords by
          rw [he, ← HKW.out, List.getD_eq_getElem?_getD, List.getElem?_eq_getElem (by rw [HK.out]; exact hlt)]; exact List.getElem_mem _)
        clear he
        go_wp2
        go_ret
        exact ⟨⟨_, rfl, ⟨fun _ => HM.out, fun _ => by omega⟩⟩, rfl⟩
      · have hq : (l == kw) = false := by simpa using he
        have VN := Lib.hid (show ∀ j, j < k + 1 → keyWords.getD j [] ≠ l from fun j hj => by
          rcases Nat.lt_or_eq_of_le (Nat.le_of_lt_succ hj) with hj | rfl
          · exact V.out j hj
          · exact fun e => he (by rw [← e, HKW.out]))
        clear he
        go_wp2
        go_roundg (10 - (k + 1))
        case measure => omega
        case rel => exact ⟨k + 1, rfl, by go_num, hlt, Nat.le_refl _, VN⟩
    · have hltz : ¬ (k : Int) < 10 := by omega
      have HM := Lib.hid (show ¬ l ∈ keyWords from fun h => by
        obtain ⟨j, hj, e⟩ := List.getElem_of_mem h
        refine V.out j (by rw [HK.out] at hj; omega) ?_
        rw [List.getD_eq_getElem?_getD, List.getElem?_eq_getElem hj]; exact e)
      go_wp2
      go_ret
      exact ⟨⟨_, rfl, ⟨fun h => by omega, fun h => absurd h HM.out⟩⟩, rfl⟩
theorem hasKey_any (l : List UInt8) (w : World) (hT : Tab w) : Calls Tryd.prog 139 #[.slice (some ⟨0, 0, none⟩) 10 10, strV l] w fun e w' => e = .returned (.bool (decide (l ∈ keyWords))) ∧ w = w' := by
  go_enter Tryd.func139, Tryd.ntmps139
  go_wp2_with fail
  refine (indexKey_any l _ hT).mono ?_
  rintro e w1 ⟨⟨i, rfl, hi⟩, rfl⟩
  have HI := Lib.hid (show decide (0 ≤ i) = decide (l ∈ keyWords) by rw [decide_eq_decide]; exact hi)
  clear hi
  go_wp2
  go_ret
  exact ⟨by rw [← HI.out]; rfl, rfl⟩
theorem head_of {c : UInt8} {r : List UInt8} (h1 : (c :: r).length ≤ 16) : headOk (c :: r) = (decide (97 ≤ c.toNat) && decide (c.toNat ≤ 122)) := by
  unfold headOk
  rw [decide_eq_true (show 1 ≤ (c :: r).length by simp), decide_eq_true h1, Bool.true_and, Bool.true_and]
theorem head_long {l : List UInt8} (h : ¬ l.length ≤ 16) : headOk l = false := by unfold headOk; rw [decide_eq_false h]; simp
theorem sym_head {l : List UInt8} (h : headOk l = false) : symB l = false := by unfold symB; rw [h]; simp
theorem sym_of {l : List UInt8} (h : headOk l = true) : symB l = (l.all isLetter && decide (l ∉ keyWords)) := by unfold symB; rw [h, Bool.true_and]
set_option maxHeartbeats 2000000 in
set_option maxRecDepth 1000000 in
theorem symbol_any (l : List UInt8) (hl : l.length ≤ 9223372036854775807) (w : World) (hT : Tab w) : Calls Tryd.prog 120 #[strV l] w fun e w' => e = .returned (.bool (symB l)) ∧ Below w.heap.size w w' := by
  cases l with
  | nil =>
    go_enter Tryd.func120, Tryd.ntmps120
    go_wp2
    go_ret
    exact ⟨rfl, Below.refl _ _⟩
  | cons c r =>
    obtain ⟨s, hs⟩ : ∃ s : ByteArray, s = ⟨(c :: r).toArray⟩ := ⟨_, rfl⟩
    have hsz : s.size = (c :: r).length := by rw [hs]; rfl
    have h0 : 0 < s.size := by rw [hsz]; simp
    have hc : (s[0]'h0) = c := by subst hs; rfl
    have hne : s.toList.isEmpty = false := by rw [Lib.toList_data, hs]; rfl
    have hK := hasKey_any (c :: r) w hT
    have hO := hasOdd_any (c :: r) w
    have HV : strV (c :: r) = .string s := by rw [hs]
    rw [HV] at hK hO
    rw [HV]
    rw [← hsz] at hl
    clear HV hs
    by_cases h16 : s.size ≤ 16
    · have q1 : decide ((16 : Int) < (s.size : Int)) = false := decide_eq_false (by omega)
      have hH := head_of (c := c) (r := r) (by omega)
      rw [← hc] at hH
      by_cases h97 : 97 ≤ (s[0]'h0).toNat
      · have q2 : decide (((s[0]'h0).toNat : Int) < 97) = false := decide_eq_false (by omega)
        by_cases h122 : (s[0]'h0).toNat ≤ 122
        · have q3 : decide ((122 : Int) < ((s[0]'h0).toNat : Int)) = false := decide_eq_false (by omega)
          have HS := Lib.hid (sym_of (l := c :: r) (by rw [show headOk (c :: r) = headOk (s[0] :: r) by rw [hc], hH, decide_eq_true h97, decide_eq_true h122]; rfl))
          clear hH hsz hc
          go_enter Tryd.func120, Tryd.ntmps120
          go_wp2_with fail
          refine hK.mono ?_
          rintro e w1 ⟨rfl, rfl⟩
          cases hk : decide (c :: r ∈ keyWords)
          · have RES := Lib.hid (show symB (c :: r) = (c :: r).all isLetter by rw [HS.out, decide_eq_true (p := c :: r ∉ keyWords) (by simpa using hk), Bool.and_true])
            clear hk
            go_wp2_with fail
            refine hO.mono ?_
            rintro e w2 ⟨rfl, B2⟩
            obtain ⟨q, hq⟩ : ∃ q, (c :: r).all isLetter = q := ⟨_, rfl⟩
            rw [hq] at RES
            rw [hq]
            clear hq
            go_wp2
            go_ret
            exact ⟨by rw [RES.out]; simp, B2⟩
          · have RES := Lib.hid (show symB (c :: r) = false by rw [HS.out, decide_eq_false (p := c :: r ∉ keyWords) (by simpa using hk), Bool.and_false])
            clear hk
            go_wp2
            go_ret
            exact ⟨by rw [RES.out]; rfl, Below.refl _ _⟩
        · have q3 : decide ((122 : Int) < ((s[0]'h0).toNat : Int)) = true := decide_eq_true (by omega)
          have RES := Lib.hid (sym_head (l := c :: r) (by rw [show headOk (c :: r) = headOk (s[0] :: r) by rw [hc], hH, decide_eq_false h122]; simp))
          clear hH hsz hc
          go_enter Tryd.func120, Tryd.ntmps120
          go_wp2
          go_ret
          exact ⟨by rw [RES.out]; rfl, Below.refl _ _⟩
      · have q2 : decide (((s[0]'h0).toNat : Int) < 97) = true := decide_eq_true (by omega)
        have RES := Lib.hid (sym_head (l := c :: r) (by rw [show headOk (c :: r) = headOk (s[0] :: r) by rw [hc], hH, decide_eq_false h97]; simp))
        clear hH hsz hc
        go_enter Tryd.func120, Tryd.ntmps120
        go_wp2
        go_ret
        exact ⟨by rw [RES.out]; rfl, Below.refl _ _⟩
    · have RES := Lib.hid (sym_head (head_long (l := c :: r) (by omega)))
      have q1 : decide ((16 : Int) < (s.size : Int)) = true := decide_eq_true (by omega)
      clear hsz hc
      go_enter Tryd.func120, Tryd.ntmps120
      go_wp2
      go_ret
      exact ⟨by rw [RES.out]; rfl, Below.refl _ _⟩
end Go.Proofs.YtdibijhaiaiifaaDoor
/- The walk of the given program's Valid of a value. -/
namespace Go.Proofs.YtdibijhaiaiifaaDoor
open Go.RowKit
theorem valid_int {x : Vl} (h : x.t = 1) : validV x = (decide (0 ≤ x.n) && decide (x.n ≤ 9999) && decide (x.s = [])) := by unfold validV; rw [if_pos h]
theorem valid_sym {x : Vl} (h : x.t = 2) : validV x = (decide (x.n = 0) && symB x.s) := by unfold validV; rw [if_neg (by omega), decide_eq_true h, Bool.true_and]
theorem valid_no {x : Vl} (h : ¬ x.t = 1) (k : ¬ x.t = 2) : validV x = false := by unfold validV; rw [if_neg h, decide_eq_false k]; rfl
set_option maxHeartbeats 1000000 in
theorem validV_any (x : Vl) (w : World) (hT : Tab w) : Calls Tryd.prog 74 #[valV x] w fun e w' => e = .returned (.bool (validV x)) ∧ Below w.heap.size w w' := by
  unfold valV
  have BA := below_new w (.cells #[.int .i64 x.t, .int .i64 x.n, strV x.s] 58)
  have X := Cel.new w 58 [.int .i64 x.t, .int .i64 x.n, strV x.s]
  obtain ⟨v, hv⟩ : ∃ v, validV x = v := ⟨_, rfl⟩
  have HI := Lib.hid (fun h => (valid_int (x := x) h).symm.trans hv)
  have HS := Lib.hid (fun h => (valid_sym (x := x) h).symm.trans hv)
  have HN := Lib.hid (fun h k => (valid_no (x := x) h k).symm.trans hv)
  rw [hv]
  clear hv
  obtain ⟨t, n, s, ok⟩ := x
  dsimp only at *
  go_enter Tryd.func74, Tryd.ntmps74
  go_upto_region 1 with fail
  obtain ⟨wA, hwA⟩ : ∃ z, w.alloc (.cells #[.int .i64 t, .int .i64 n, strV s] 58) = z := ⟨_, rfl⟩
  have X' : Cel wA w.heap.size 58 [.int .i64 t, .int .i64 n, strV s] := by rw [← hwA]; exact X
  rw [hwA] at BA
  rw [hwA]
  clear hwA X
  have q0 := X'.at_ (j := 0) rfl
  have q1 := X'.at_ (j := 1) rfl
  have q2 := X'.at_ (j := 2) rfl
  by_cases h1 : t = 1
  · subst h1
    have HI2 := Lib.hid (HI.out rfl)
    clear HI HS HN
    by_cases hn0 : 0 ≤ n
    · have z0 : decide (0 ≤ n) = true := decide_eq_true hn0
      by_cases hn9 : n ≤ 9999
      · have z9 : decide (n ≤ 9999) = true := decide_eq_true hn9
        cases s with
        | nil =>
          have RES := Lib.hid (show v = true by rw [← HI2.out, z0, z9]; rfl)
          go_wp2
          go_ret
          exact ⟨by rw [RES.out]; rfl, BA⟩
        | cons c r =>
          have RES := Lib.hid (show v = false by rw [← HI2.out]; simp)
          go_wp2
          go_ret
          exact ⟨by rw [RES.out]; rfl, BA⟩
      · have z9 : decide (n ≤ 9999) = false := decide_eq_false hn9
        have RES := Lib.hid (show v = false by rw [← HI2.out, z9]; simp)
        go_wp2
        go_ret
        exact ⟨by rw [RES.out]; rfl, BA⟩
    · have z0 : decide (0 ≤ n) = false := decide_eq_false hn0
      have RES := Lib.hid (show v = false by rw [← HI2.out, z0]; simp)
      go_wp2
      go_ret
      exact ⟨by rw [RES.out]; rfl, BA⟩
  · have e1 : (t == 1) = false := by rw [beq_eq_false_iff_ne]; exact h1
    by_cases h2 : t = 2
    · subst h2
      have HS2 := Lib.hid (HS.out rfl)
      clear HI HS HN h1
      by_cases hn0 : n = 0
      · subst hn0
        go_wp2_with fail
        refine (symbol_any s ok _ (hT.keep BA)).mono ?_
        rintro e w2 ⟨rfl, B2⟩
        have RES := Lib.hid (show symB s = v by rw [← HS2.out]; simp)
        rw [RES.out]
        go_wp2
        go_ret
        exact ⟨rfl, below_trans BA B2⟩
      · have z0 : (n == 0) = false := by rw [beq_eq_false_iff_ne]; exact hn0
        have RES := Lib.hid (show v = false by rw [← HS2.out, decide_eq_false hn0]; rfl)
        clear hn0
        go_wp2
        go_ret
        exact ⟨by rw [RES.out]; rfl, BA⟩
    · have e2 : (t == 2) = false := by rw [beq_eq_false_iff_ne]; exact h2
      have RES := Lib.hid (HN.out h1 h2)
      clear h1 h2 HI HS HN
      go_wp2
      go_ret
      exact ⟨by rw [← RES.out]; rfl, BA⟩
end Go.Proofs.YtdibijhaiaiifaaDoor
/- The walk of Valid of a relation. -/
namespace Go.Proofs.YtdibijhaiaiifaaDoor
open Go.RowKit
def encI (n : Int) : List Value := [.int .i64 n]
theorem encsI : Encs 1 encI := ⟨fun _ => rfl, fun x u hu => by unfold encI at hu; simp at hu; subst hu; rfl⟩
def IsInts (w : World) (v : Value) (l : List Int) : Prop := IsRows 1 encI w v l
theorem IsInts.keep {w w' : World} {v : Value} {l : List Int} (h : IsInts w v l) (hb : Below w.heap.size w w') : IsInts w' v l := IsRows.keep h (keeps_below hb)
theorem IsInts.at_ {w : World} {a : Option Addr} {n c : Nat} {l : List Int} (h : IsInts w (.slice a n c) l) {i : Nat} {x : Int} (hi : l[i]? = some x) : ∃ b off, a = some ⟨b, off, none⟩ ∧ w.cell? ⟨b, off + i, none⟩ = some (.int .i64 x) := by
  obtain ⟨a', c', e, hr, hm⟩ := h
  injection e with e1 e2 e3
  subst e1
  exact hr.one hi rfl
/-- A tuple of one good value of each type. -/
def Typed (ty : List Int) (t : Tp) : Prop := t.length = ty.length ∧ ∀ (i : Nat) (x : Int) (y : Vl), ty[i]? = some x → t[i]? = some y → y.t = x ∧ validV y = true
/-- A good relation. -/
def GoodR (ty : List Int) (r : List Rw) : Prop := (∀ x ∈ r, Typed ty x.1) ∧ IsCan r
theorem goodR_nil (ty : List Int) : GoodR ty [] := ⟨by simp, trivial, by simp⟩
theorem Up_prefix {a b : List Rw} (h : Up (a ++ b)) : Up a := by
  induction a with
  | nil => trivial
  | cons x a ih => exact ⟨fun y hy => h.1 y (by simp [hy]), ih h.2⟩
theorem up_before {x : Rw} : ∀ {a : List Rw}, Up (a ++ [x]) → ∀ z ∈ a, cmpT z.1 x.1 < 0
  | u :: a, h, z, hz => by
    rcases List.mem_cons.1 hz with rfl | hz
    · exact h.1 x (by simp)
    · exact up_before h.2 z hz
theorem up_last {a : List Rw} {x y : Rw} (h : Up (a ++ [x])) (hxy : cmpT x.1 y.1 < 0) : Up (a ++ [x] ++ [y]) := by
  refine Up_snoc h fun z hz => ?_
  rcases List.mem_append.1 hz with hz | hz
  · exact cmpT_is.trans _ _ _ (up_before h z hz) hxy
  · simp at hz; subst hz; exact hxy
theorem good_step {ty : List Int} {xs : List RR} {i : Nat} {x : RR} (h : GoodR ty (rows (xs.take i))) (hx : xs[i]? = some x) (ht : Typed ty x.t) (hw : OkW x.s) (hp : ∀ p, 0 < i → xs[i - 1]? = some p → cmpT p.t x.t < 0) : GoodR ty (rows (xs.take (i + 1))) := by
  rw [take_succ' hx, rows_append]
  refine ⟨fun y hy => ?_, ?_, fun y hy => ?_⟩
  · rcases List.mem_append.1 hy with hy | hy
    · exact h.1 y hy
    · have : y = x.rw := by simpa [rows] using hy
      rw [this]; exact ht
  · cases i with
    | zero => simp [rows, Up]
    | succ j =>
      have hj : j < xs.length := by have := (List.getElem?_eq_some_iff.1 hx).1; omega
      obtain ⟨p, hpj⟩ := getElem_of_lt hj
      have h2 := h.2.1
      rw [take_succ' hpj, rows_append] at h2 ⊢
      exact up_last h2 (hp p (by omega) hpj)
  · rcases List.mem_append.1 hy with hy | hy
    · exact h.2.2 y hy
    · have : y = x.rw := by simpa [rows] using hy
      rw [this]; exact hw
theorem up_next : ∀ {xs : List RR} {i : Nat} {p x : RR}, Up (rows xs) → xs[i]? = some p → xs[i + 1]? = some x → cmpT p.t x.t < 0
  | y :: xs, 0, p, x, h, hp, hx => by
    obtain rfl : y = p := by simpa using hp
    exact up_head h x (List.mem_of_getElem? (i := 0) (by simpa using hx))
  | y :: xs, i + 1, p, x, h, hp, hx => up_next (xs := xs) h.2 (by simpa using hp) (by simpa using hx)
theorem bad_row {ty : List Int} {xs : List RR} {i : Nat} {x : RR} (hx : xs[i]? = some x) (h : ¬ Typed ty x.t ∨ ¬ OkW x.s) : ¬ GoodR ty (rows xs) := fun g => by
  have hm : x.rw ∈ rows xs := mem_rows.2 ⟨x, List.mem_of_getElem? hx, rfl⟩
  rcases h with h | h
  · exact h (g.1 _ hm)
  · exact h (g.2.2 _ hm)
theorem bad_pair {ty : List Int} {xs : List RR} {i : Nat} {p x : RR} (hp : xs[i]? = some p) (hx : xs[i + 1]? = some x) (h : ¬ cmpT p.t x.t < 0) : ¬ GoodR ty (rows xs) := fun g => h (up_next g.2.1 hp hx)
theorem bool_of (p : Prop) : ∃ q : Bool, Hid (q = false ↔ p) := by
  classical
  exact ⟨decide ¬ p, Lib.hid (by simp)⟩
/-- Up to k a tuple is of the types. -/
def TypedTo (ty : List Int) (t : Tp) (k : Nat) : Prop := t.length = ty.length ∧ ∀ (i : Nat) (x : Int) (y : Vl), i < k → ty[i]? = some x → t[i]? = some y → y.t = x ∧ validV y = true
def VldRet (ty : List Int) (xs : List RR) (w : World) (e : Ending) (w' : World) : Prop := ∃ b, e = .returned (.bool b) ∧ (b = true ↔ GoodR ty (rows xs)) ∧ Below w.heap.size w w'
theorem VldRet.no {ty : List Int} {xs : List RR} {w w' : World} (h : ¬ GoodR ty (rows xs)) (hb : Below w.heap.size w w') : VldRet ty xs w (.returned (.bool false)) w' := ⟨false, rfl, ⟨fun e => (by cases e), fun g => absurd g h⟩, hb⟩
theorem VldRet.yes {ty : List Int} {xs : List RR} {w w' : World} (h : GoodR ty (rows xs)) (hb : Below w.heap.size w w') : VldRet ty xs w (.returned (.bool true)) w' := ⟨true, rfl, ⟨fun _ => h, fun _ => rfl⟩, hb⟩
theorem validSp_after {W : World} {v : Value} {l : List Sp} {b : Bool} (hT : Tab W) (h : IsSpans W v l) (hb : decide (l = canon (setOf l)) = b) (p : AftB W) : Calls Tryd.prog 72 #[v] p.w' fun e w'' => e = .returned (.bool b) ∧ ∃ q : AftB W, w'' = q.w' := by
  subst hb
  exact AftB.call (Valid_any v l p.w' (hT.keep p.ok) (h.keep p.ok))
theorem byArgs_aftB {W : World} {x y : RR} (hx : RowOk W x) (hy : RowOk W y) (p : AftB W) : Calls Tryd.prog 73 #[rowV x, rowV y] p.w' fun e w'' => e = .returned (.int .i64 (cmpT x.t y.t)) ∧ ∃ q : AftB W, w'' = q.w' :=
  AftB.call ((byArgs_any x y p.w' (hx.keep p.ok).1 (hy.keep p.ok).1).mono fun _ _ ⟨h, g⟩ => ⟨h, g.below⟩)
theorem validV_aftB {W : World} {x : Vl} {b : Bool} (hT : Tab W) (hb : validV x = b) (p : AftB W) : Calls Tryd.prog 74 #[valV x] p.w' fun e w'' => e = .returned (.bool b) ∧ ∃ q : AftB W, w'' = q.w' := by
  subst hb
  exact AftB.call (validV_any x p.w' (hT.keep p.ok))
set_option maxHeartbeats 4000000 in
set_option maxRecDepth 1000000 in
theorem ValidR_any (vt va : Value) (ty : List Int) (xs : List RR) (w : World) (hT : Tab w) (ht : IsInts w vt ty) (ha : IsRel w va xs) : Calls Tryd.prog 19 #[vt, va] w (VldRet ty xs w) := by
  obtain ⟨pt, pc, rfl, ht', hmt, hmt2, hmt3⟩ := ht
  replace ht : IsInts w (.slice pt ty.length pc) ty := ⟨_, _, rfl, ht', hmt, hmt2, hmt3⟩
  obtain ⟨pa, ca, rfl, hma⟩ := ha.shape
  clear ht'
  go_enter Tryd.func19, Tryd.ntmps19
  go_wp2
  go_loopg [11] xs.length (fun g vi wr => ∃ i : Nat, vi = .int .i64 i ∧ i ≤ xs.length ∧ xs.length - i ≤ g ∧ Hid (GoodR ty (rows (xs.take i))) ∧ Below w.heap.size w wr)
  case atStart => exact ⟨0, rfl, Nat.zero_le _, Nat.le_refl _, Lib.hid (goodR_nil ty), Below.refl _ _⟩
  case round =>
    obtain ⟨i, rfl, hi, hg, V, B⟩ := hrel
    by_cases hlt : i < xs.length
    · have hltz : (i : Int) < (xs.length : Int) := by omega
      obtain ⟨x, hx⟩ := getElem_of_lt hlt
      obtain ⟨b, off, e, c0, c1, rx⟩ := (ha.keep B).at_ hx
      cases e
      go_upto_region 4 with fail
      have BA := below_new wr (.cells #[x.av, x.wv] 44)
      have X := Cel.new wr 44 [x.av, x.wv]
      obtain ⟨wA, hwA⟩ : ∃ z, wr.alloc (.cells #[x.av, x.wv] 44) = z := ⟨_, rfl⟩
      have X' : Cel wA wr.heap.size 44 [x.av, x.wv] := by rw [← hwA]; exact X
      rw [hwA] at BA
      rw [hwA]
      clear hwA X
      have hAi := (ha.keep B).keep BA
      obtain ⟨q, HQ⟩ : ∃ q : Bool, Hid (q = false ↔ (x.t.length = ty.length ∧ OkW x.s ∧ ∀ p, 0 < i → xs[i - 1]? = some p → cmpT p.t x.t < 0)) := bool_of _
      have HX := Lib.hid hx
      clear hx c0 c1
      have y0 := X'.at_ (j := 0) rfl
      have y1 := X'.at_ (j := 1) rfl
      have rA := rx.keep BA
      have hTA := (hT.keep B).keep BA
      go_cut [47] from 16 to 47 (fun v47 wx => v47 = .bool q ∧ Below wA.heap.size wA wx)
      case first =>
        by_cases e1 : x.t.length = ty.length
        · have HE1 := Lib.hid e1
          have z1 : ((List.length x.t : Int) != (ty.length : Int)) = false := by rw [e1]; simp
          clear e1
          by_cases e2 : x.s.length = 0
          · obtain rfl : q = true := by
              cases q with
              | true => rfl
              | false => exact absurd (List.eq_nil_of_length_eq_zero e2) (HQ.out.1 rfl).2.1.1
            have z2 : ((x.s.length : Int) == 0) = true := by rw [e2]; rfl
            clear e2
            go_region
            go_wp2
            go_meet
            case rel => exact ⟨rfl, (Below.refl _ _).drew⟩
          · have z2 : ((x.s.length : Int) == 0) = false := by rw [beq_eq_false_iff_ne]; omega
            have HE2 := Lib.hid e2
            clear e2
            have a_y0 := AftB.cell y0
            have a_y1 := AftB.cell y1
            cases hcv : decide (x.s = canon (setOf x.s))
            · obtain rfl : q = true := by
                cases q with
                | true => rfl
                | false => exact absurd (HQ.out.1 rfl).2.1.2.symm (of_decide_eq_false hcv)
              refine wp_region_aftB (by kernel_rfl) (by kernel_rfl) ?_
              repeat (go_big_quiet_step ((exact validSp_after hTA rA.spans hcv _)))
              refine wpQuiet_nil ?_
              intro w5 B5
              clear a_y0 a_y1
              go_wp2
              go_meet
              case rel => exact ⟨rfl, B5⟩
            · have HOK := Lib.hid (show OkW x.s from ⟨fun e => HE2.out (by rw [e]; rfl), (of_decide_eq_true hcv).symm⟩)
              by_cases hi0 : i = 0
              · subst hi0
                obtain rfl : q = false := HQ.out.2 ⟨HE1.out, HOK.out, fun p h => by omega⟩
                refine wp_region_aftB (by kernel_rfl) (by kernel_rfl) ?_
                repeat (go_big_quiet_step ((exact validSp_after hTA rA.spans hcv _)))
                refine wpQuiet_nil ?_
                intro w5 B5
                clear a_y0 a_y1
                go_wp2
                go_meet
                case rel => exact ⟨rfl, B5⟩
              · obtain ⟨j, rfl⟩ : ∃ j, i = j + 1 := ⟨i - 1, by omega⟩
                obtain ⟨p, hp⟩ := getElem_of_lt (l := xs) (i := j) (by omega)
                obtain ⟨_, _, e, d0, d1, rp⟩ := hAi.at_ hp
                cases e
                obtain ⟨z, hz⟩ : ∃ z, cmpT p.t x.t = z := ⟨_, rfl⟩
                have HZ : Hid (q = decide (0 ≤ z)) := Lib.hid (by
                  rw [Bool.eq_iff_iff, decide_eq_true_iff]
                  constructor
                  · intro hq
                    refine Int.not_lt.1 fun hl => ?_
                    have := HQ.out.2 ⟨HE1.out, HOK.out, fun p' _ hp' => by rw [Nat.add_sub_cancel, hp] at hp'; cases hp'; rw [hz]; exact hl⟩
                    rw [hq] at this; cases this
                  · intro hl
                    cases q with
                    | true => rfl
                    | false => have := (HQ.out.1 rfl).2.2 p (by omega) (by rw [Nat.add_sub_cancel]; exact hp); omega)
                have a_d0 := AftB.cell d0
                have a_d1 := AftB.cell d1
                have k1 : (0 : Int) < (j : Int) + 1 := by omega
                have k2 : (j : Int) < (xs.length : Int) := by omega
                have k3 : (j : Int) + 1 - 1 = (j : Int) := by omega
                have hjw : IntKind.i64.wrap (j : Int) = (j : Int) := by rw [IntKind.wrap_i64]; omega
                clear hp
                refine wp_region_aftB (by kernel_rfl) (by kernel_rfl) ?_
                repeat (go_big_quiet_step ((first | exact validSp_after hTA rA.spans hcv _ | exact byArgs_aftB rp rA _)))
                refine wpQuiet_nil ?_
                intro w5 B5
                clear a_y0 a_y1 a_d0 a_d1
                rw [hz, ← HZ.out]
                go_wp2
                go_meet
                case rel => exact ⟨rfl, B5⟩
        · obtain rfl : q = true := by
            cases q with
            | true => rfl
            | false => exact absurd (HQ.out.1 rfl).1 e1
          have z1 : ((List.length x.t : Int) != (ty.length : Int)) = true := by rw [bne_iff_ne]; omega
          clear e1
          go_region
          go_wp2
          go_meet
          case rel => exact ⟨rfl, (Below.refl _ _).drew⟩
      case rest =>
        obtain ⟨rfl, B5⟩ := hcut
        have B25 := B.trans ((BA.trans (B5.mono BA.size)).mono B.size)
        replace y0 := cell_keep B5 y0
        have rA5 := rA.keep B5
        have hT5 := hT.keep B25
        cases q with
        | true =>
          have RES := Lib.hid (show ¬ GoodR ty (rows xs) from fun g => by
            have h := HQ.out.2 ⟨(g.1 x.rw (mem_rows.2 ⟨x, List.mem_of_getElem? HX.out, rfl⟩)).1, g.2.2 x.rw (mem_rows.2 ⟨x, List.mem_of_getElem? HX.out, rfl⟩), fun p h0 hp => up_next g.2.1 hp (by rw [show i - 1 + 1 = i by omega]; exact HX.out)⟩
            cases h)
          clear hAi y1 rA rA5 hTA
          go_wp2
          go_ret
          exact VldRet.no RES.out B25
        | false =>
          have HG := Lib.hid (HQ.out.1 rfl)
          obtain ⟨nx, hnx⟩ : ∃ nx, x.t.length = nx := ⟨_, rfl⟩
          obtain ⟨xp, xc, hxv, hmv⟩ : ∃ xp xc, x.av = .slice xp nx xc ∧ nx ≤ 9223372036854775807 := by
            obtain ⟨a, c, e, _, hm⟩ := rA5.vals
            exact ⟨a, c, by rw [e, hnx], by omega⟩
          have hv5 := rA5.vals
          rw [hxv] at y0 hv5
          have HXV := Lib.hid hxv
          have HNX := Lib.hid hnx
          have hnty : nx = ty.length := by rw [← hnx]; exact HG.out.1
          have hn1 : nx ≤ ty.length := by omega
          have hn2 : ty.length ≤ nx := by omega
          clear hAi y1 rA rA5 hTA hxv hnx hnty
          go_wp2
          go_loopg [51] nx (fun g vi wq => ∃ k : Nat, vi = .int .i64 k ∧ k ≤ nx ∧ nx - k ≤ g ∧ Hid (TypedTo ty x.t k) ∧ Below wc.heap.size wc wq)
          case atStart => exact ⟨0, rfl, Nat.zero_le _, Nat.le_refl _, Lib.hid ⟨HG.out.1, fun i _ _ h => by omega⟩, Below.refl _ _⟩
          case round =>
            obtain ⟨k, rfl, hk, hg2, VT, Bk⟩ := hrel
            have Bwk := B25.trans (Bk.mono B25.size)
            by_cases hlk : k < nx
            · have hlkz : (k : Int) < (nx : Int) := by omega
              have hlty : (k : Int) < (ty.length : Int) := by omega
              obtain ⟨y, hy⟩ := getElem_of_lt (l := x.t) (i := k) (by have := HNX.out; omega)
              obtain ⟨τ, hτ⟩ := getElem_of_lt (l := ty) (i := k) (by omega)
              have hvk := hv5.keep Bk
              obtain ⟨_, _, e, hvr, -⟩ := hvk
              injection e with e1 e2 e3
              subst e1 e3
              obtain ⟨vb, vo, rfl, d0, d1, d2⟩ := vals_at hvr hy
              obtain ⟨tb, tof, rfl, g0⟩ := (ht.keep Bwk).at_ hτ
              have VY := Lib.hid (fun (h1 : y.t = τ) (h2 : validV y = true) => (show TypedTo ty x.t (k + 1) from ⟨HG.out.1, fun i x' y' hi hx' hy' => by
                rcases Nat.lt_or_eq_of_le (Nat.le_of_lt_succ hi) with hi | rfl
                · exact VT.out.2 i x' y' hi hx' hy'
                · rw [hτ] at hx'; rw [hy] at hy'; cases hx'; cases hy'; exact ⟨h1, h2⟩⟩))
              have VN := Lib.hid (fun (h : ¬ (y.t = τ ∧ validV y = true)) => bad_row (ty := ty) HX.out (.inl fun g => h (g.2 k τ y hτ hy)))
              clear hy hτ hvr e2
              go_upto_region 9 with fail
              have BC := below_new wr (.cells #[.int .i64 y.t, .int .i64 y.n, strV y.s] 58)
              have Z := Cel.new wr 58 [.int .i64 y.t, .int .i64 y.n, strV y.s]
              obtain ⟨wC, hwC⟩ : ∃ z, wr.alloc (.cells #[.int .i64 y.t, .int .i64 y.n, strV y.s] 58) = z := ⟨_, rfl⟩
              have Z' : Cel wC wr.heap.size 58 [.int .i64 y.t, .int .i64 y.n, strV y.s] := by rw [← hwC]; exact Z
              rw [hwC] at BC
              rw [hwC]
              clear hwC Z d0 d1 d2
              replace g0 := cell_keep BC g0
              have z0 := Z'.at_ (j := 0) rfl
              have z1 := Z'.at_ (j := 1) rfl
              have z2 := Z'.at_ (j := 2) rfl
              have BwC := Bwk.trans (BC.mono Bwk.size)
              have hTC := hT.keep BwC
              by_cases hyt : y.t = τ
              · cases hvy : validV y
                · have RES := Lib.hid (VN.out fun h => by rw [hvy] at h; cases h.2)
                  have e0 : (y.t != τ) = false := by rw [hyt]; simp
                  clear hyt VY VN
                  have a0 := AftB.cell z0
                  have a1 := AftB.cell z1
                  have a2 := AftB.cell z2
                  have a3 := AftB.cell g0
                  refine wp_region_aftB (by kernel_rfl) (by kernel_rfl) ?_
                  repeat (go_big_quiet_step ((exact validV_aftB hTC hvy _)))
                  refine wpQuiet_nil ?_
                  intro w6 B6
                  clear a0 a1 a2 a3
                  go_wp2
                  go_ret
                  exact VldRet.no RES.out (BwC.trans (B6.mono BwC.size))
                · have VS := Lib.hid (VY.out hyt hvy)
                  have e0 : (y.t != τ) = false := by rw [hyt]; simp
                  clear hyt VY VN
                  have a0 := AftB.cell z0
                  have a1 := AftB.cell z1
                  have a2 := AftB.cell z2
                  have a3 := AftB.cell g0
                  refine wp_region_aftB (by kernel_rfl) (by kernel_rfl) ?_
                  repeat (go_big_quiet_step ((exact validV_aftB hTC hvy _)))
                  refine wpQuiet_nil ?_
                  intro w6 B6
                  clear a0 a1 a2 a3
                  go_wp2
                  go_roundg (nx - (k + 1))
                  case measure => omega
                  case rel => exact ⟨k + 1, by go_num, hlk, Nat.le_refl _, VS, Bk.trans ((BC.trans (B6.mono BC.size)).mono Bk.size)⟩
              · have RES := Lib.hid (VN.out fun h => hyt h.1)
                have e0 : (y.t != τ) = true := by rw [bne_iff_ne]; exact hyt
                clear hyt VY VN
                go_region
                have B6 : Below wC.heap.size wC wC.drew := (Below.refl _ _).drew
                generalize World.drew _ = w6 at B6 ⊢
                go_wp2
                go_ret
                exact VldRet.no RES.out (BwC.trans (B6.mono BwC.size))
            · have hlkz : ¬ (k : Int) < (nx : Int) := by omega
              have VS := Lib.hid (good_step V.out HX.out ⟨HG.out.1, fun i' x' y' hx' hy' => VT.out.2 i' x' y' (by have := (List.getElem?_eq_some_iff.1 hx').1; omega) hx' hy'⟩ HG.out.2.1 HG.out.2.2)
              go_wp2
              go_roundg (xs.length - (i + 1))
              case measure => omega
              case rel => exact ⟨i + 1, by go_num, hlt, Nat.le_refl _, VS, Bwk⟩
    · have hltz : ¬ (i : Int) < (xs.length : Int) := by omega
      have RES := Lib.hid (show GoodR ty (rows xs) by have := V.out; rwa [List.take_of_length_le (by omega)] at this)
      go_wp2
      go_ret
      exact VldRet.yes RES.out B
end Go.Proofs.YtdibijhaiaiifaaDoor
/- The walks of the reference's Same, SameTuples, Few. -/
namespace Go.Proofs.YtdibijhaiaiifaaDoor
open Go.RowKit
theorem rCmp_aftB {W : World} {va vb : Value} {a b : Tp} {z : Int} (ha : IsVals W va a) (hb : IsVals W vb b) (hz : cmpT a b = z) (p : AftB W) : Calls Tryd.prog 42 #[va, vb] p.w' fun e w'' => e = .returned (.int .i64 z) ∧ ∃ q : AftB W, w'' = q.w' := by
  subst hz
  exact AftB.call ((rCompareTuple_any va vb a b p.w' (ha.keep p.ok) (hb.keep p.ok)).mono fun _ _ ⟨h, g⟩ => ⟨h, g.below⟩)
theorem iSame_aftB {W : World} {va vb : Value} {a b : List Sp} {c : Bool} (ha : IsSpans W va a) (hb : IsSpans W vb b) (hc : decide (a = b) = c) (p : AftB W) : Calls Tryd.prog 21 #[va, vb] p.w' fun e w'' => e = .returned (.bool c) ∧ ∃ q : AftB W, w'' = q.w' := by
  subst hc
  exact AftB.call (Same_any va vb a b p.w' (ha.keep p.ok) (hb.keep p.ok))
theorem rows_at {xs : List RR} {i : Nat} {x : RR} (h : xs[i]? = some x) : (rows xs)[i]? = some x.rw := by unfold rows; rw [List.getElem?_map, h]; rfl
theorem take_rows {xs ys : List RR} {i : Nat} {x y : RR} (h : (rows xs).take i = (rows ys).take i) (hx : xs[i]? = some x) (hy : ys[i]? = some y) (e : x.rw = y.rw) : (rows xs).take (i + 1) = (rows ys).take (i + 1) := by
  rw [take_succ' (rows_at hx), take_succ' (rows_at hy), h, e]
theorem rows_ne {xs ys : List RR} {i : Nat} {x y : RR} (hx : xs[i]? = some x) (hy : ys[i]? = some y) (e : ¬ x.rw = y.rw) : ¬ rows xs = rows ys := fun h => e (by
  have h1 := rows_at hx
  rw [h, rows_at hy] at h1
  exact (Option.some.inj h1).symm)
set_option maxHeartbeats 4000000 in
set_option maxRecDepth 1000000 in
theorem rSameR_any (va vb : Value) (xs ys : List RR) (w : World) (ha : IsRel w va xs) (hb : IsRel w vb ys) : Calls Tryd.prog 24 #[va, vb] w fun e w' => e = .returned (.bool (decide (rows xs = rows ys))) ∧ Below w.heap.size w w' := by
  obtain ⟨r, hr⟩ : ∃ r, decide (rows xs = rows ys) = r := ⟨_, rfl⟩
  rw [hr]
  have HR := Lib.hid hr
  clear hr
  obtain ⟨pa, ca, rfl, hma⟩ := ha.shape
  obtain ⟨pb, cb, rfl, hmb⟩ := hb.shape
  obtain ⟨n, hn⟩ : ∃ n, xs.length = n := ⟨_, rfl⟩
  obtain ⟨m, hm⟩ : ∃ m, ys.length = m := ⟨_, rfl⟩
  rw [hn] at ha hma
  rw [hm] at hb hmb
  rw [hn, hm]
  have HN := Lib.hid hn
  have HM := Lib.hid hm
  clear hn hm
  by_cases hl : n = m
  · subst hl
    have z0 : ((n : Int) != (n : Int)) = false := by simp
    go_enter Tryd.func24, Tryd.ntmps24
    go_wp2
    go_loopg [5] n (fun g vi wr => ∃ i : Nat, vi = .int .i64 i ∧ i ≤ n ∧ n - i ≤ g ∧ Hid ((rows xs).take i = (rows ys).take i) ∧ Below w.heap.size w wr)
    case atStart => exact ⟨0, rfl, Nat.zero_le _, Nat.le_refl _, Lib.hid rfl, Below.refl _ _⟩
    case round =>
      obtain ⟨i, rfl, hi, hg, V, B⟩ := hrel
      by_cases hlt : i < n
      · have hltz : (i : Int) < (n : Int) := by omega
        obtain ⟨x, hx⟩ := getElem_of_lt (l := xs) (i := i) (by have := HN.out; omega)
        obtain ⟨y, hy⟩ := getElem_of_lt (l := ys) (i := i) (by have := HM.out; omega)
        obtain ⟨b1, o1, e, c0, c1, rx⟩ := (ha.keep B).at_ hx
        cases e
        obtain ⟨b2, o2, e, d0, d1, ry⟩ := (hb.keep B).at_ hy
        cases e
        have VS := Lib.hid (fun e => take_rows V.out hx hy e)
        have VN := Lib.hid (fun e => (show r = false by rw [← HR.out]; exact decide_eq_false (rows_ne hx hy e)))
        clear hx hy
        obtain ⟨z, hz⟩ : ∃ z, cmpT x.t y.t = z := ⟨_, rfl⟩
        have a0 := AftB.cell c0
        have a1 := AftB.cell c1
        have a2 := AftB.cell d0
        have a3 := AftB.cell d1
        have rxv := rx.vals
        have ryv := ry.vals
        have rxs := rx.spans
        have rys := ry.spans
        clear c0 c1 d0 d1 rx ry
        have HZ := Lib.hid hz
        clear hz
        by_cases hz0 : z = 0
        · have ET := Lib.hid (show x.t = y.t from (cmpT_is.eq _ _).1 (HZ.out.trans hz0))
          have z1 : (z != 0) = false := by rw [hz0]; rfl
          clear hz0
          cases hs : decide (x.s = y.s)
          · have RES := Lib.hid (VN.out fun e => by have := congrArg Prod.snd e; exact absurd this (of_decide_eq_false hs))
            clear VN VS
            go_upto_region 6 with fail
            refine wp_region_aftB (by kernel_rfl) (by kernel_rfl) ?_
            repeat (go_big_quiet_step ((first | exact rCmp_aftB rxv ryv HZ.out _ | exact iSame_aftB rxs rys hs _)))
            refine wpQuiet_nil ?_
            intro w5 B5
            clear a0 a1 a2 a3
            go_wp2
            go_ret
            exact ⟨by rw [RES.out]; rfl, B.trans (B5.mono B.size)⟩
          · have VS2 := Lib.hid (VS.out (Prod.ext ET.out (of_decide_eq_true hs)))
            clear VN VS
            go_upto_region 6 with fail
            refine wp_region_aftB (by kernel_rfl) (by kernel_rfl) ?_
            repeat (go_big_quiet_step ((first | exact rCmp_aftB rxv ryv HZ.out _ | exact iSame_aftB rxs rys hs _)))
            refine wpQuiet_nil ?_
            intro w5 B5
            clear a0 a1 a2 a3
            go_wp2
            go_roundg (n - (i + 1))
            case measure => omega
            case rel => exact ⟨i + 1, by go_num, hlt, Nat.le_refl _, VS2, B.trans (B5.mono B.size)⟩
        · have RES := Lib.hid (VN.out fun e => hz0 (by rw [← HZ.out]; exact (cmpT_is.eq _ _).2 (congrArg Prod.fst e)))
          have z1 : (z != 0) = true := by rw [bne_iff_ne]; exact hz0
          clear VN VS hz0
          go_upto_region 6 with fail
          refine wp_region_aftB (by kernel_rfl) (by kernel_rfl) ?_
          repeat (go_big_quiet_step ((exact rCmp_aftB rxv ryv HZ.out _)))
          refine wpQuiet_nil ?_
          intro w5 B5
          clear a0 a1 a2 a3
          go_wp2
          go_ret
          exact ⟨by rw [RES.out]; rfl, B.trans (B5.mono B.size)⟩
      · have hltz : ¬ (i : Int) < (n : Int) := by omega
        have RES := Lib.hid (show r = true by
          rw [← HR.out]
          have h1 := V.out
          rw [List.take_of_length_le (by rw [rows_length, HN.out]; omega), List.take_of_length_le (by rw [rows_length, HM.out]; omega)] at h1
          exact decide_eq_true h1)
        go_wp2
        go_ret
        exact ⟨by rw [RES.out]; rfl, B⟩
  · have z0 : ((n : Int) != (m : Int)) = true := by rw [bne_iff_ne]; omega
    have RES := Lib.hid (show r = false by
      rw [← HR.out]
      exact decide_eq_false fun e => hl (by have := congrArg List.length e; rwa [rows_length, rows_length, HN.out, HM.out] at this))
    clear hl
    go_enter Tryd.func24, Tryd.ntmps24
    go_wp2
    go_ret
    exact ⟨by rw [RES.out]; rfl, Below.refl _ _⟩
def tups (l : List TT) : List Tp := l.map (·.t)
theorem tups_at {xs : List TT} {i : Nat} {x : TT} (h : xs[i]? = some x) : (tups xs)[i]? = some x.t := by unfold tups; rw [List.getElem?_map, h]; rfl
theorem take_tups {xs ys : List TT} {i : Nat} {x y : TT} (h : (tups xs).take i = (tups ys).take i) (hx : xs[i]? = some x) (hy : ys[i]? = some y) (e : x.t = y.t) : (tups xs).take (i + 1) = (tups ys).take (i + 1) := by
  rw [take_succ' (tups_at hx), take_succ' (tups_at hy), h, e]
theorem tups_ne {xs ys : List TT} {i : Nat} {x y : TT} (hx : xs[i]? = some x) (hy : ys[i]? = some y) (e : ¬ x.t = y.t) : ¬ tups xs = tups ys := fun h => e (by
  have h1 := tups_at hx
  rw [h, tups_at hy] at h1
  exact (Option.some.inj h1).symm)
theorem tups_length (a : List TT) : (tups a).length = a.length := by simp [tups]
set_option maxHeartbeats 4000000 in
set_option maxRecDepth 1000000 in
theorem rSameT_any (va vb : Value) (xs ys : List TT) (w : World) (ha : IsTups w va xs) (hb : IsTups w vb ys) : Calls Tryd.prog 35 #[va, vb] w fun e w' => e = .returned (.bool (decide (tups xs = tups ys))) ∧ Below w.heap.size w w' := by
  obtain ⟨r, hr⟩ : ∃ r, decide (tups xs = tups ys) = r := ⟨_, rfl⟩
  rw [hr]
  have HR := Lib.hid hr
  clear hr
  obtain ⟨pa, ca, rfl, hma⟩ := ha.shape
  obtain ⟨pb, cb, rfl, hmb⟩ := hb.shape
  obtain ⟨n, hn⟩ : ∃ n, xs.length = n := ⟨_, rfl⟩
  obtain ⟨m, hm⟩ : ∃ m, ys.length = m := ⟨_, rfl⟩
  rw [hn] at ha hma
  rw [hm] at hb hmb
  rw [hn, hm]
  have HN := Lib.hid hn
  have HM := Lib.hid hm
  clear hn hm
  by_cases hl : n = m
  · subst hl
    have z0 : ((n : Int) != (n : Int)) = false := by simp
    go_enter Tryd.func35, Tryd.ntmps35
    go_wp2
    go_loopg [5] n (fun g vi wr => ∃ i : Nat, vi = .int .i64 i ∧ i ≤ n ∧ n - i ≤ g ∧ Hid ((tups xs).take i = (tups ys).take i) ∧ Below w.heap.size w wr)
    case atStart => exact ⟨0, rfl, Nat.zero_le _, Nat.le_refl _, Lib.hid rfl, Below.refl _ _⟩
    case round =>
      obtain ⟨i, rfl, hi, hg, V, B⟩ := hrel
      by_cases hlt : i < n
      · have hltz : (i : Int) < (n : Int) := by omega
        obtain ⟨x, hx⟩ := getElem_of_lt (l := xs) (i := i) (by have := HN.out; omega)
        obtain ⟨y, hy⟩ := getElem_of_lt (l := ys) (i := i) (by have := HM.out; omega)
        obtain ⟨b1, o1, e, c0, rx⟩ := (ha.keep B).at_ hx
        cases e
        obtain ⟨b2, o2, e, d0, ry⟩ := (hb.keep B).at_ hy
        cases e
        have VS := Lib.hid (fun e => take_tups V.out hx hy e)
        have VN := Lib.hid (fun e => (show r = false by rw [← HR.out]; exact decide_eq_false (tups_ne hx hy e)))
        clear hx hy
        obtain ⟨z, hz⟩ : ∃ z, cmpT x.t y.t = z := ⟨_, rfl⟩
        have a0 := AftB.cell c0
        have a2 := AftB.cell d0
        have HZ := Lib.hid hz
        clear hz c0 d0
        by_cases hz0 : z = 0
        · have VS2 := Lib.hid (VS.out ((cmpT_is.eq _ _).1 (HZ.out.trans hz0)))
          have z1 : (z != 0) = false := by rw [hz0]; rfl
          clear VN VS hz0
          go_upto_region 6 with fail
          refine wp_region_aftB (by kernel_rfl) (by kernel_rfl) ?_
          repeat (go_big_quiet_step ((exact rCmp_aftB rx ry HZ.out _)))
          refine wpQuiet_nil ?_
          intro w5 B5
          clear a0 a2
          go_wp2
          go_roundg (n - (i + 1))
          case measure => omega
          case rel => exact ⟨i + 1, by go_num, hlt, Nat.le_refl _, VS2, B.trans (B5.mono B.size)⟩
        · have RES := Lib.hid (VN.out fun e => hz0 (by rw [← HZ.out]; exact (cmpT_is.eq _ _).2 e))
          have z1 : (z != 0) = true := by rw [bne_iff_ne]; exact hz0
          clear VN VS hz0
          go_upto_region 6 with fail
          refine wp_region_aftB (by kernel_rfl) (by kernel_rfl) ?_
          repeat (go_big_quiet_step ((exact rCmp_aftB rx ry HZ.out _)))
          refine wpQuiet_nil ?_
          intro w5 B5
          clear a0 a2
          go_wp2
          go_ret
          exact ⟨by rw [RES.out]; rfl, B.trans (B5.mono B.size)⟩
      · have hltz : ¬ (i : Int) < (n : Int) := by omega
        have RES := Lib.hid (show r = true by
          rw [← HR.out]
          have h1 := V.out
          rw [List.take_of_length_le (by rw [tups_length, HN.out]; omega), List.take_of_length_le (by rw [tups_length, HM.out]; omega)] at h1
          exact decide_eq_true h1)
        go_wp2
        go_ret
        exact ⟨by rw [RES.out]; rfl, B⟩
  · have z0 : ((n : Int) != (m : Int)) = true := by rw [bne_iff_ne]; omega
    have RES := Lib.hid (show r = false by
      rw [← HR.out]
      exact decide_eq_false fun e => hl (by have := congrArg List.length e; rwa [tups_length, tups_length, HN.out, HM.out] at this))
    clear hl
    go_enter Tryd.func35, Tryd.ntmps35
    go_wp2
    go_ret
    exact ⟨by rw [RES.out]; rfl, Below.refl _ _⟩
/-- At most 40 rows of at most 6 values and 20 spans. -/
def fewR (xs : List RR) : Bool := decide (xs.length ≤ 40) && xs.all fun x => decide (x.t.length ≤ 6) && decide (x.s.length ≤ 20)
theorem fewR_sml {xs : List RR} (h : fewR xs = true) : Sml 40 xs := by
  unfold fewR at h
  rw [Bool.and_eq_true, decide_eq_true_iff, List.all_eq_true] at h
  refine ⟨h.1, fun x hx => ?_⟩
  have := h.2 x hx
  rw [Bool.and_eq_true, decide_eq_true_iff, decide_eq_true_iff] at this
  omega
theorem few_no {xs : List RR} {i : Nat} {x : RR} (hx : xs[i]? = some x) (h : ¬ (x.t.length ≤ 6 ∧ x.s.length ≤ 20)) : fewR xs = false := by
  unfold fewR
  rw [Bool.and_eq_false_iff]
  refine .inr ?_
  rw [List.all_eq_false]
  refine ⟨x, List.mem_of_getElem? hx, ?_⟩
  rw [Bool.and_eq_true, decide_eq_true_iff, decide_eq_true_iff]
  exact h
set_option maxHeartbeats 4000000 in
set_option maxRecDepth 1000000 in
theorem fewR_any (va : Value) (xs : List RR) (w : World) (ha : IsRel w va xs) : Calls Tryd.prog 38 #[va] w fun e w' => e = .returned (.bool (fewR xs)) ∧ Below w.heap.size w w' := by
  obtain ⟨r, hr⟩ : ∃ r, fewR xs = r := ⟨_, rfl⟩
  rw [hr]
  have HR := Lib.hid hr
  clear hr
  obtain ⟨pa, ca, rfl, hma⟩ := ha.shape
  by_cases h40 : xs.length ≤ 40
  · have z0 : ¬ (40 : Int) < (xs.length : Int) := by omega
    go_enter Tryd.func38, Tryd.ntmps38
    go_wp2
    go_loopg [3] xs.length (fun g vi wr => ∃ i : Nat, w = wr ∧ vi = .int .i64 i ∧ i ≤ xs.length ∧ xs.length - i ≤ g ∧ Hid ((xs.take i).all (fun x => decide (x.t.length ≤ 6) && decide (x.s.length ≤ 20)) = true))
    case atStart => exact ⟨0, rfl, rfl, Nat.zero_le _, Nat.le_refl _, Lib.hid rfl⟩
    case round =>
      obtain ⟨i, rfl, rfl, hi, hg, V⟩ := hrel
      by_cases hlt : i < xs.length
      · have hltz : (i : Int) < (xs.length : Int) := by omega
        obtain ⟨x, hx⟩ := getElem_of_lt hlt
        obtain ⟨b1, o1, e, c0, c1, rx⟩ := ha.at_ hx
        cases e
        have VN := Lib.hid (fun h => HR.out.symm.trans (few_no hx h))
        have VS := Lib.hid (fun h => (show (xs.take (i + 1)).all (fun x => decide (x.t.length ≤ 6) && decide (x.s.length ≤ 20)) = true by
          rw [take_succ' hx, List.all_append, V.out, List.all_cons, List.all_nil, Bool.true_and, Bool.and_true]; exact h))
        clear hx
        by_cases h6 : x.t.length ≤ 6
        · have z1 : ¬ (6 : Int) < ((List.length x.t : Nat) : Int) := by omega
          by_cases h20 : x.s.length ≤ 20
          · have z2 : ¬ (20 : Int) < (x.s.length : Int) := by omega
            have VS2 := Lib.hid (VS.out (by rw [decide_eq_true h6, decide_eq_true h20]; rfl))
            clear VN VS rx
            go_wp2
            go_roundg (xs.length - (i + 1))
            case measure => omega
            case rel => exact ⟨i + 1, rfl, by go_num, hlt, Nat.le_refl _, VS2⟩
          · have z2 : (20 : Int) < (x.s.length : Int) := by omega
            have RES := Lib.hid (VN.out fun h => h20 h.2)
            clear VN VS rx
            go_wp2
            go_ret
            exact ⟨by rw [RES.out]; rfl, Below.refl _ _⟩
        · have z1 : (6 : Int) < ((List.length x.t : Nat) : Int) := by omega
          have RES := Lib.hid (VN.out fun h => h6 h.1)
          clear VN VS rx
          go_wp2
          go_ret
          exact ⟨by rw [RES.out]; rfl, Below.refl _ _⟩
      · have hltz : ¬ (i : Int) < (xs.length : Int) := by omega
        have RES := Lib.hid (show r = true by
          rw [← HR.out]; unfold fewR
          have := V.out
          rw [List.take_of_length_le (by omega)] at this
          rw [decide_eq_true h40, this]; rfl)
        go_wp2
        go_ret
        exact ⟨by rw [RES.out]; rfl, Below.refl _ _⟩
  · have z0 : (40 : Int) < (xs.length : Int) := by omega
    have RES := Lib.hid (show r = false by rw [← HR.out]; unfold fewR; rw [decide_eq_false h40]; rfl)
    go_enter Tryd.func38, Tryd.ntmps38
    go_wp2
    go_ret
    exact ⟨by rw [RES.out]; rfl, Below.refl _ _⟩
end Go.Proofs.YtdibijhaiaiifaaDoor
/- The walks of the small functions of the laws: Int, Sym, pair, row. -/
namespace Go.Proofs.YtdibijhaiaiifaaDoor
open Go.RowKit
def intVl (n : Int) : Vl := ⟨1, n, [], by simp⟩
def symVl (l : List UInt8) (h : l.length ≤ 9223372036854775807) : Vl := ⟨2, 0, l, h⟩
theorem Int_any (n : Int) (w : World) : Calls Tryd.prog 71 #[.int .i64 n] w fun e w' => e = .returned (.agg #[.int .i64 1, .int .i64 n, strV []]) ∧ Below w.heap.size w w' := by
  have X := Cel.new w 58 [.int .i64 1, .int .i64 n, strV []]
  have c0 := X.at_ (j := 0) rfl
  have c1 := X.at_ (j := 1) rfl
  have c2 := X.at_ (j := 2) rfl
  have B := below_new w (.cells #[.int .i64 1, .int .i64 n, strV []] 58)
  go_enter Tryd.func71, Tryd.ntmps71
  go_wp2
  refine bodyPost_ret (v := .agg #[.int .i64 1, .int .i64 n, strV []]) (by simp [results, Tryd.results71, go_sem, c0, c1, c2]) rfl ?_
  exact ⟨rfl, B⟩
theorem Sym_any (l : List UInt8) (w : World) : Calls Tryd.prog 99 #[strV l] w fun e w' => e = .returned (.agg #[.int .i64 2, .int .i64 0, strV l]) ∧ Below w.heap.size w w' := by
  have X := Cel.new w 58 [.int .i64 2, .int .i64 0, strV l]
  have c0 := X.at_ (j := 0) rfl
  have c1 := X.at_ (j := 1) rfl
  have c2 := X.at_ (j := 2) rfl
  have B := below_new w (.cells #[.int .i64 2, .int .i64 0, strV l] 58)
  go_enter Tryd.func99, Tryd.ntmps99
  go_wp2
  refine bodyPost_ret (v := .agg #[.int .i64 2, .int .i64 0, strV l]) (by simp [results, Tryd.results99, go_sem, c0, c1, c2]) rfl ?_
  exact ⟨rfl, B⟩
def pairT (l : List UInt8) (h : l.length ≤ 9223372036854775807) (n : Int) : Tp := [symVl l h, intVl n]
theorem pair_any (l : List UInt8) (hl : l.length ≤ 9223372036854775807) (n : Int) (w : World) : Calls Tryd.prog 70 #[strV l, .int .i64 n] w fun e w' => ∃ u, e = .returned u ∧ IsVals w' u (pairT l hl n) ∧ Fresh w.heap.size u ∧ Below w.heap.size w w' := by
  go_enter Tryd.func70, Tryd.ntmps70
  go_wp2_with fail
  refine (Sym_any l _).mono ?_
  rintro e w1 ⟨rfl, B1⟩
  go_wp2_with fail
  refine (Int_any n _).mono ?_
  rintro e w2 ⟨rfl, B2⟩
  have hm : IsVals (w2.alloc (.cells #[.int .i64 2, .int .i64 0, strV l, .int .i64 1, .int .i64 n, strV []] 58)) (.slice (some ⟨w2.heap.size, 0, none⟩) 2 2) (pairT l hl n) := IsRows.lit w2 (pairT l hl n) encsV (by simp [pairT])
  have B3 := below_new w2 (.cells #[.int .i64 2, .int .i64 0, strV l, .int .i64 1, .int .i64 n, strV []] 58)
  go_wp2
  go_ret
  exact ⟨_, rfl, hm, fun b hb => by have h1 := B1.size; have h2 := B2.size; simp [Value.ownBlock] at hb; omega, below_trans B1 (below_trans B2 B3)⟩
theorem row_any (l : List UInt8) (hl : l.length ≤ 9223372036854775807) (n f t : Int) (w : World) : Calls Tryd.prog 69 #[strV l, .int .i64 n, .int .i64 f, .int .i64 t] w fun e w' => ∃ r : RR, e = .returned (rowV r) ∧ RowOk w' r ∧ r.rw = (pairT l hl n, [(f, t)]) ∧ Below w.heap.size w w' := by
  have B0 := below_new w (.cells #[.slice none 0 0, .slice none 0 0] 44)
  have X0 := Cel.new w 44 [.slice none 0 0, .slice none 0 0]
  go_enter Tryd.func69, Tryd.ntmps69
  go_upto_region 1 with fail
  obtain ⟨w1, hw1⟩ : ∃ z, w.alloc (.cells #[.slice none 0 0, .slice none 0 0] 44) = z := ⟨_, rfl⟩
  have X1 : Cel w1 w.heap.size 44 [.slice none 0 0, .slice none 0 0] := by rw [← hw1]; exact X0
  rw [hw1] at B0
  rw [hw1]
  clear hw1 X0
  go_wp2_with fail
  refine (pair_any l hl n _).mono ?_
  rintro e w2 ⟨u, rfl, hu, hfr, B2⟩
  obtain ⟨pu, cu, rfl, hu'⟩ := hu
  have hv : IsVals w2 (.slice pu (pairT l hl n).length cu) (pairT l hl n) := ⟨pu, cu, rfl, hu'⟩
  have hs := IsRows.lit (e := 86) w2 [(f, t)] encsS (by simp)
  have B3 := below_new w2 (.cells #[.int .i64 f, .int .i64 t] 86)
  have X3 := (X1.keep B2).keep B3
  have c0 := X3.at_ (j := 0) rfl
  have c1 := X3.at_ (j := 1) rfl
  have f0 := X3.free 0
  have f1 := X3.free 1
  obtain ⟨q, hq⟩ : ∃ q : RR, q = ⟨pu, cu, pairT l hl n, some ⟨w2.heap.size, 0, none⟩, 1, [(f, t)]⟩ := ⟨_, rfl⟩
  have RQ : RowOk (w2.alloc (.cells #[.int .i64 f, .int .i64 t] 86)) q := by rw [hq]; exact ⟨hv.keep B3, IsSpans.of_rows hs⟩
  have X4 := (X3.set 0 (.slice pu (pairT l hl n).length cu)).set 1 (.slice (some ⟨w2.heap.size, 0, none⟩) 1 1)
  have A4 : Agree (fun k => k = w.heap.size) (w2.alloc (.cells #[.int .i64 f, .int .i64 t] 86)) (((w2.alloc (.cells #[.int .i64 f, .int .i64 t] 86)).setCell ⟨w.heap.size, 0, none⟩ (.slice pu (pairT l hl n).length cu)).setCell ⟨w.heap.size, 1, none⟩ (.slice (some ⟨w2.heap.size, 0, none⟩) 1 1)) :=
    Agree.setCell (p := ⟨w.heap.size, 1, none⟩) (Agree.setCell (p := ⟨w.heap.size, 0, none⟩) (Agree.refl (fun k => k = w.heap.size) _) (.inl rfl) _) (.inl rfl) _
  have hlt := X1.lt
  have hs2 := B2.size
  have R4 := (show RowOk _ q from ⟨IsRows.agree RQ.1 A4 fun b hb e => by
      rw [hq] at hb; have := hfr b hb; omega, RQ.2.agree A4 fun b hb e => by rw [hq] at hb; simp [Value.ownBlock] at hb; omega⟩)
  have B4 : Below w.heap.size w (((w2.alloc (.cells #[.int .i64 f, .int .i64 t] 86)).setCell ⟨w.heap.size, 0, none⟩ (.slice pu (pairT l hl n).length cu)).setCell ⟨w.heap.size, 1, none⟩ (.slice (some ⟨w2.heap.size, 0, none⟩) 1 1)) :=
    (below_trans B0 (below_trans B2 B3)).trans (A4.below (by have := B3.size; have := (below_trans B0 B2).size; omega) fun k hk => by omega)
  have d0 := X4.at_ (j := 0) rfl
  have d1 := X4.at_ (j := 1) rfl
  go_wp2
  refine bodyPost_ret (v := .agg #[.slice pu (pairT l hl n).length cu, .slice (some ⟨w2.heap.size, 0, none⟩) 1 1]) (by simp [results, Tryd.results69, go_sem, d0, d1]) rfl ?_
  exact ⟨q, by rw [hq]; rfl, R4, by rw [hq]; rfl, B4⟩
end Go.Proofs.YtdibijhaiaiifaaDoor
/- The plain facts of the head of the laws of relations: its fixed examples. -/
namespace Go.Proofs.YtdibijhaiaiifaaDoor
open Go.RowKit
theorem short1 (c : UInt8) : [c].length ≤ 9223372036854775807 := by simp
abbrev tA : Tp := pairT [97] (short1 97) 1
abbrev tB : Tp := pairT [98] (short1 98) 2
theorem tAB : cmpT tA tB < 0 := by decide +kernel
theorem tBA : ¬ cmpT tB tA < 0 := by decide +kernel
theorem neAB : tA ≠ tB := fun e => by have := tAB; rw [e, cmpT_is.refl] at this; omega
theorem can_zero : IsCan [] := ⟨trivial, by simp⟩
theorem can_one {t : Tp} {s : List Sp} (h : OkW s) : IsCan [(t, s)] := ⟨⟨by simp, trivial⟩, by simp; exact h⟩
theorem can_two {t u : Tp} {s r : List Sp} (h : cmpT t u < 0) (k : OkW s) (l : OkW r) : IsCan [(t, s), (u, r)] := ⟨⟨by simp; exact h, by simp, trivial⟩, by simp; exact ⟨k, l⟩⟩
theorem ok04 : OkW [(0, 4)] := ⟨by simp, by decide +kernel⟩
theorem ok26 : OkW [(2, 6)] := ⟨by simp, by decide +kernel⟩
theorem ok05 : OkW [(0, 5)] := ⟨by simp, by decide +kernel⟩
theorem ok0124 : OkW [(0, 1), (2, 4)] := ⟨by simp, by decide +kernel⟩
theorem mom1 (t u : Tp) (s : List Sp) (k : Nat) : mom [(t, s)] u k = (decide (t = u) && setOf s k) := by rw [mom_cons, mom_nil, Bool.or_false]
theorem mom2 (t v u : Tp) (s r : List Sp) (k : Nat) : mom [(t, s), (v, r)] u k = ((decide (t = u) && setOf s k) || (decide (v = u) && setOf r k)) := by rw [mom_cons, mom1]
theorem not_both (u : Tp) : (decide (tA = u) && decide (tB = u)) = false := by
  rw [Bool.and_eq_false_iff]
  by_cases h : tA = u
  · exact .inr (decide_eq_false fun e => neAB (h.trans e.symm))
  · exact .inl (decide_eq_false h)
abbrev hR : List Rw := [(tA, [(0, 4)]), (tB, [(2, 6)])]
theorem hR_can : IsCan hR := can_two tAB ok04 ok26
section
variable {xs ys zs : List RR}
theorem fit_can (hx : rows xs = hR) (h : CanOf xs zs) : rows zs = hR := can_ext _ _ h.can hR_can fun t k hk => by rw [h.mom t k hk, hx]
theorem k45 : ∀ k, k < 64 → (setOf [(0, 4)] k || setOf [(4, 5)] k) = setOf [(0, 5)] k := by decide +kernel
theorem k12 : ∀ k, k < 64 → (setOf [(0, 4)] k && !setOf [(1, 2)] k) = setOf [(0, 1), (2, 4)] k := by decide +kernel
theorem f_insert (hx : rows xs = hR) (h : OpOf opU xs [rr tA [(4, 5)]] zs) : rows zs = [(tA, [(0, 5)]), (tB, [(2, 6)])] := by
  refine can_ext _ _ h.can (can_two tAB ok05 ok26) fun t k hk => ?_
  rw [h.mom t k hk, hx, show rows [rr tA [(4, 5)]] = [(tA, [(4, 5)])] from rfl, mom2, mom1, mom2, ← k45 k hk]
  unfold opU
  cases decide (tA = t) <;> cases decide (tB = t) <;> simp [Bool.or_comm, Bool.or_left_comm, Bool.or_assoc]
theorem f_remove (hx : rows xs = hR) (h : OpOf opD xs [rr tB [(2, 6)]] zs) : rows zs = [(tA, [(0, 4)])] := by
  refine can_ext _ _ h.can (can_one ok04) fun t k hk => ?_
  rw [h.mom t k hk, hx, show rows [rr tB [(2, 6)]] = [(tB, [(2, 6)])] from rfl, mom2, mom1, mom1]
  unfold opD
  have := not_both t
  revert this
  cases decide (tA = t) <;> cases decide (tB = t) <;> simp
theorem f_union (hx : rows xs = [(tB, [(2, 6)])]) (hy : rows ys = [(tA, [(0, 4)])]) (h : OpOf opU xs ys zs) : rows zs = hR := by
  refine can_ext _ _ h.can hR_can fun t k hk => ?_
  rw [h.mom t k hk, hx, hy, mom1, mom1, mom2]
  exact Bool.or_comm _ _
theorem f_meet (hx : rows xs = [(tA, [(0, 4)])]) (hy : rows ys = [(tB, [(2, 6)])]) (h : OpOf opM xs ys zs) : rows zs = [] := by
  refine can_ext _ _ h.can can_zero fun t k hk => ?_
  rw [h.mom t k hk, hx, hy, mom1, mom1, mom_nil]
  unfold opM
  have := not_both t
  revert this
  cases decide (tA = t) <;> cases decide (tB = t) <;> simp
theorem f_minus (hx : rows xs = hR) (hy : rows ys = [(tA, [(1, 2)])]) (h : OpOf opD xs ys zs) : rows zs = [(tA, [(0, 1), (2, 4)]), (tB, [(2, 6)])] := by
  refine can_ext _ _ h.can (can_two tAB ok0124 ok26) fun t k hk => ?_
  rw [h.mom t k hk, hx, hy, mom2, mom1, mom2, ← k12 k hk]
  unfold opD
  have := not_both t
  revert this
  cases decide (tA = t) <;> cases decide (tB = t) <;> simp
theorem f_when (hx : rows xs = hR) : (canon fun k => mom (rows xs) tB k) = [(2, 6)] := by
  rw [hx, ← ok26.2]
  refine canon_ext fun k hk => ?_
  rw [mom2, decide_eq_false neAB, decide_eq_true rfl, Bool.false_and, Bool.false_or, Bool.true_and]
theorem two_of (h : rows zs = hR) : ∃ x y, zs = [x, y] ∧ x.t = tA ∧ x.s = [(0, 4)] ∧ y.t = tB ∧ y.s = [(2, 6)] := by
  have hl : zs.length = 2 := by rw [← rows_length, h]; rfl
  rcases zs with _ | ⟨x, _ | ⟨y, _ | ⟨z, r⟩⟩⟩
  · cases hl
  · cases hl
  · injection h with h1 h2
    injection h2 with h2 _
    exact ⟨x, y, rfl, congrArg Prod.fst h1, congrArg Prod.snd h1, congrArg Prod.fst h2, congrArg Prod.snd h2⟩
  · simp at hl
theorem f_at (hx : rows xs = hR) {m : Int} {l : List Tp} (h : AtOf xs m l) : l = (if inSet [(0, 4)] m then [tA] else []) ++ (if inSet [(2, 6)] m then [tB] else []) := by
  obtain ⟨zs, hc, e⟩ := h
  obtain ⟨x, y, rfl, h1, h2, h3, h4⟩ := two_of (fit_can hx hc)
  rw [e]
  cases ha : inSet [(0, 4)] m <;> cases hb : inSet [(2, 6)] m <;> simp [List.filter, h1, h2, h3, h4, ha, hb]
theorem f_good (hx : rows xs = hR) : GoodR [2, 1] (rows xs) := by
  rw [hx]
  refine ⟨fun x h => ?_, hR_can⟩
  have hV : ∀ (c : UInt8) (n : Int), validV (symVl [c] (short1 c)) = true → validV (intVl n) = true → Typed [2, 1] (pairT [c] (short1 c) n) := fun c n h1 h2 => by
    refine ⟨rfl, fun i x y hi hy => ?_⟩
    match i, hi, hy with
    | 0, hi, hy =>
      obtain rfl : 2 = x := by simpa using hi
      obtain rfl : symVl [c] (short1 c) = y := by simpa [pairT] using hy
      exact ⟨rfl, h1⟩
    | 1, hi, hy =>
      obtain rfl : 1 = x := by simpa using hi
      obtain rfl : intVl n = y := by simpa [pairT] using hy
      exact ⟨rfl, h2⟩
  rcases List.mem_cons.1 h with rfl | h
  · exact hV 97 1 (by decide +kernel) (by decide +kernel)
  · obtain rfl := List.mem_singleton.1 h
    exact hV 98 2 (by decide +kernel) (by decide +kernel)
theorem f_turned (hx : rows xs = [(tB, [(2, 6)]), (tA, [(0, 4)])]) : ¬ GoodR [2, 1] (rows xs) := fun g => by
  rw [hx] at g
  exact tBA (g.2.1.1 (tA, [(0, 4)]) (by simp))
theorem f_short (hx : rows xs = hR) : ¬ GoodR [2] (rows xs) := fun g => by
  rw [hx] at g
  have := (g.1 (tA, [(0, 4)]) (by simp)).1
  simp [pairT] at this
def zeroVl : Vl := ⟨0, 0, [], by simp⟩
def tmX : Tm := ⟨[88], zeroVl, by simp⟩
def tmC (v : Vl) : Tm := ⟨[], v, by simp⟩
theorem f_select (hx : rows xs = hR) (h : CanOf (xs.filter fun x => matchL [tmX, tmC (intVl 2)] x.t) zs) : rows zs = [(tB, [(2, 6)])] := by
  obtain ⟨x, y, rfl, h1, h2, h3, h4⟩ := two_of hx
  have e1 : matchL [tmX, tmC (intVl 2)] tA = false := by decide +kernel
  have e2 : matchL [tmX, tmC (intVl 2)] tB = true := by decide +kernel
  have e : rows ([x, y].filter fun x => matchL [tmX, tmC (intVl 2)] x.t) = [(tB, [(2, 6)])] := by
    simp only [List.filter, h1, h3, e1, e2]
    show [(y.t, y.s)] = _
    rw [h3, h4]
  exact can_ext _ _ h.can (can_one ok26) fun t k hk => by rw [h.mom t k hk, e]
theorem f_select2 (hx : rows xs = hR) (h : CanOf (xs.filter fun x => matchL [tmX, tmX] x.t) zs) : rows zs = [] := by
  obtain ⟨x, y, rfl, h1, h2, h3, h4⟩ := two_of hx
  have e1 : matchL [tmX, tmX] tA = false := by decide +kernel
  have e2 : matchL [tmX, tmX] tB = false := by decide +kernel
  have e : rows ([x, y].filter fun x => matchL [tmX, tmX] x.t) = [] := by
    simp only [List.filter, h1, h3, e1, e2]
    rfl
  exact can_ext _ _ h.can can_zero fun t k hk => by rw [h.mom t k hk, e]
end
end Go.Proofs.YtdibijhaiaiifaaDoor
