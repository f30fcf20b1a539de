/- Parts Cc, Aft, Fil, At, Eq: words, walks and laws that the claims of this seat share. -/
import Derived.Test.YtdibijhaiaiifaaDoorJ9
import Derived.Test.YtdibijhaiaiifaaDoorJ10
/- The walk of combine. -/
namespace Go.Proofs.YtdibijhaiaiifaaDoor
open Go.RowKit Go.Shelf
attribute [local go_sem] Oper.semAt_some
theorem comb_len {op : Bool → Bool → Bool} : ∀ l : List (RR × RR), (combL op l).length ≤ l.length
  | [] => Nat.le_refl _
  | p :: l => by
    unfold combL
    rw [List.flatMap_cons, List.length_append, List.length_cons]
    have h1 : (comb1 op p).length ≤ 1 := by unfold comb1; split <;> simp
    have h2 := comb_len (op := op) l
    unfold combL at h2
    omega
theorem grown_of {A B : World} {r : Option Nat} (h : Below A.heap.size A B) : A.grownBy B r := ⟨h.os, h.tape, h.output, h.size, fun k hk _ => h.block k hk⟩
theorem keeps_of {X : Nat → Prop} {n : Nat} {A B : World} (h : Agree X A B) (hc : ∀ k, X k → ∀ o, A.heap[k]? = some o → o.isCells = true) : KeepsFrom n A B :=
  ⟨h.size, fun k o _ hk ho => (h.block k (block_lt hk) fun hx => by rw [hc k hx o hk] at ho; cases ho).trans hk⟩
theorem Owns.cells {α : Type} {k : Nat} {e : TypeId} {enc : α → List Value} {w : World} {base : Nat} {v : Value} {l : List α} (h : Owns k e enc w base v l) {g : Nat} (hg : v.ownBlock = some g) : ∀ o, w.heap[g]? = some o → o.isCells = true := by
  intro o ho
  rcases h.2 with ⟨rfl, _⟩ | ⟨g', cap, cur, rfl, _, hh, _⟩
  · cases hg
  · obtain rfl : g' = g := by simpa [Value.ownBlock] using hg
    rw [hh] at ho; cases ho; rfl
theorem pair_ok {B : World} {ua ub : Value} {al bl : List RR} {p : RR × RR} (h1 : IsRel B ua al) (h2 : IsRel B ub bl) (hp : p ∈ pairsL al bl) : RowOk B p.1 ∧ RowOk B p.2 := by
  obtain ⟨a, b⟩ := pairs_mem hp
  constructor
  · rcases a with a | ⟨y, hy, e⟩
    · exact h1.2 _ a
    · rw [e]; exact ⟨(h2.2 y hy).1, IsSpans.nil _⟩
  · rcases b with b | b
    · exact h2.2 _ b
    · rw [b]; exact noRow_ok _
theorem pairs_any (pa pb : Option Addr) (n m ca cb : Nat) (w : World) :
    Calls Tryd.prog 126 #[.slice pa n ca, .slice pb m cb] w fun e w' => e = .returned (.func (.func 143) #[] #[.pointer (some ⟨w.heap.size, 0, none⟩), .pointer (some ⟨w.heap.size + 1, 0, none⟩)]) ∧ w' = (w.alloc (.cells #[.slice pa n ca] 24)).alloc (.cells #[.slice pb m cb] 24) := by
  go_enter Tryd.func126, Tryd.ntmps126
  go_wp2
  go_ret
  exact ⟨by simp, rfl⟩
/-- What combine asks of the operation on moments. -/
structure Moms (f : FuncId) (op : Bool → Bool → Bool) : Prop where
  enter : ∀ args w, (callFunc f args).run Tryd.prog w = .ok (.enter f args) w
  call : ∀ va vb a b w, Tab w → IsSpans w va a → IsSpans w vb b → Calls Tryd.prog f #[va, vb] w fun e w' => ∃ u, e = .returned u ∧ IsSpansF w' w.heap.size u (canon fun k => op (setOf a k) (setOf b k)) ∧ Below w.heap.size w w'
/-- What holds behind some rounds of combine. -/
def CmbI (op : Bool → Bool → Bool) (n1 s3 s4 b7 : Nat) (w4 : World) (pre : List (RR × RR)) (W : World) : Prop :=
  (∃ v out, Cel W b7 24 [v] ∧ Hold 2 44 encR RowOk (fun k => k < n1 ∨ k = s3 ∨ k = s3 + 1 ∨ k = s4 ∨ k = s4 + 1) W (s4 + 2) v out ∧ Hid (rows out = combL op pre)) ∧ Agree (fun k => k = b7 ∨ k = s3 ∨ k = s3 + 1 ∨ s4 ≤ k) w4 W
set_option maxHeartbeats 4000000 in
set_option maxRecDepth 100000 in
theorem combine_in (f : FuncId) (op : Bool → Bool → Bool) (h0 : op false false = false) (hf : Moms f op) (va vb : Value) (xs ys : List RR) (w : World) (hT : Tab w) (ha : IsRel w va xs) (hb : IsRel w vb ys) (sa : Sml 10000 xs) (sb : Sml 10000 ys) :
    CallsIn Fence.wide 4 Tryd.prog 83 #[va, vb, .func (.func f) #[] #[]] w fun e w' => ∃ u, e = .returned u ∧ ∃ zs, IsRelF w' w.heap.size u zs ∧ OpOf op xs ys zs ∧ Below w.heap.size w w' := by
  have SA := Lib.hid sa
  have SB := Lib.hid sb
  clear sa sb
  refine callsIn_of_wp_marks Tryd.func83 rfl trivial ?_ rfl
  simp only [Tryd.ntmps83, List.size_toArray, List.length_cons, List.length_nil, Nat.reduceAdd, Nat.reduceSub, Array.replicate_succ, Array.replicate_zero, List.push_toArray, List.append_toArray, List.nil_append, List.cons_append]
  gi_upto_region 2 with fail
  have B1 : Below w.heap.size w ((w.alloc (.cells #[.func (.func f) #[] #[]] 54)).alloc (.cells #[.slice none 0 0] 24)) := below_alloc' (below_new _ _)
  have F5 : Cel ((w.alloc (.cells #[.func (.func f) #[] #[]] 54)).alloc (.cells #[.slice none 0 0] 24)) w.heap.size 54 [.func (.func f) #[] #[]] := (Cel.new w 54 [.func (.func f) #[] #[]]).keep (below_new _ _)
  have F7 : Cel ((w.alloc (.cells #[.func (.func f) #[] #[]] 54)).alloc (.cells #[.slice none 0 0] 24)) (w.heap.size + 1) 24 [.slice none 0 0] := by
    have := Cel.new (w.alloc (.cells #[.func (.func f) #[] #[]] 54)) 24 [.slice none 0 0]
    rwa [World.size_alloc] at this
  have hs1 : ((w.alloc (.cells #[.func (.func f) #[] #[]] 54)).alloc (.cells #[.slice none 0 0] 24)).heap.size = w.heap.size + 2 := by simp
  obtain ⟨w1, hw1⟩ : ∃ z, (w.alloc (.cells #[.func (.func f) #[] #[]] 54)).alloc (.cells #[.slice none 0 0] 24) = z := ⟨_, rfl⟩
  rw [hw1] at B1 F5 F7 hs1
  rw [hw1]
  clear hw1
  obtain ⟨b5, h5⟩ : ∃ b5, w.heap.size = b5 := ⟨_, rfl⟩
  obtain ⟨b7, h7⟩ : ∃ b7, w.heap.size + 1 = b7 := ⟨_, rfl⟩
  rw [h7] at F7
  rw [h7]
  rw [h5] at F5
  have hT1 := hT.keep B1
  have ha1 := ha.keep B1
  have hb1 := hb.keep B1
  gi_wp2_with fail
  refine ⟨trivial, ?_⟩
  (with_reducible refine (callsIn_wide.2 (canonical_any va xs _ hT1 ha1 SA.out)).mono ?_)
  rintro e w2 ⟨ua, rfl, al, Ra, Ca, B2⟩
  gi_wp2_with fail
  refine ⟨trivial, ?_⟩
  (with_reducible refine (callsIn_wide.2 (canonical_any vb ys _ (hT1.keep B2) (hb1.keep B2) SB.out)).mono ?_)
  rintro e w3 ⟨ub, rfl, bl, Rb, Cb, B3⟩
  replace Ra := Ra.keep B3
  replace Rb := Rb.mono B2.size
  have B13 := below_trans B2 B3
  obtain ⟨pa, ca, rfl, hma⟩ := Ra.rel.shape
  obtain ⟨pb, cb, rfl, hmb⟩ := Rb.rel.shape
  have HCA := Lib.hid Ca
  have HCB := Lib.hid Cb
  have hal : al.length ≤ 10000 := (Ca.sml _ SA.out).len
  have hbl : bl.length ≤ 10000 := (Cb.sml _ SB.out).len
  clear Ca Cb ha1 hb1 ha hb B2 B3
  gi_wp2_with fail
  refine ⟨trivial, ?_⟩
  (with_reducible refine (callsIn_wide.2 (pairs_any _ _ _ _ _ _ _)).mono ?_)
  rintro e w4 ⟨rfl, hw4⟩
  have G1 : Cel w4 w3.heap.size 24 [.slice pa al.length ca] := by rw [hw4]; exact (Cel.new w3 24 [.slice pa al.length ca]).keep (below_new _ _)
  have G2 : Cel w4 (w3.heap.size + 1) 24 [.slice pb bl.length cb] := by
    have := Cel.new (w3.alloc (.cells #[.slice pa al.length ca] 24)) 24 [.slice pb bl.length cb]
    rw [World.size_alloc] at this
    rw [hw4]; exact this
  have B4 : Below w3.heap.size w3 w4 := by rw [hw4]; exact below_alloc' (below_new _ _)
  have hs4 : w4.heap.size = w3.heap.size + 2 := by rw [hw4]; simp
  clear hw4
  replace F5 := F5.keep (below_trans B13 B4)
  replace F7 := F7.keep (below_trans B13 B4)
  have hs13 := B13.size
  have hRR : ∀ B, Agree (fun k => k = b7 ∨ k = w3.heap.size ∨ k = w3.heap.size + 1 ∨ w4.heap.size ≤ k) w4 B → Agree (fun k => k < w1.heap.size) w3 B := fun B hB =>
    ⟨hB.os.trans B4.os, hB.tape.trans B4.tape, hB.output.trans B4.output, Nat.le_trans B4.size hB.size, fun k hk hx => (hB.block k (by omega) (by omega)).trans (B4.block k hk)⟩
  gi_wp2_with fail
  have hseq : SeqBox Fence.wide 3 Tryd.prog 143 #[.pointer (some ⟨w3.heap.size, 0, none⟩), .pointer (some ⟨w3.heap.size + 1, 0, none⟩)] encPr (fun p => p ∈ pairsL al bl) (fun k => k = w3.heap.size ∨ k = w3.heap.size + 1) (Agree (fun k => k = b7 ∨ w4.heap.size ≤ k)) (fun l => l = pairsL al bl) (pairsL al bl).length w4 :=
    fun l J W hW hJ hY hj => pairs_in l w3.heap.size (w3.heap.size + 1) b7 w4.heap.size al bl _ _ J hJ (fun pre x A hx hp hl => hY pre x A hx hp hl) W (by omega) (by omega) (by omega) (by omega) (by omega) (G1.keep hW) (G2.keep hW)
      (fun B hB => by have h := hRR B ((Agree.of_below hW).trans hB); exact ⟨Ra B h, Rb B h⟩) (by omega) (by omega) hj
  have i1 := Nat.le_of_eq hs1
  have i2 := Nat.le_of_eq hs1.symm
  have i3 := Nat.le_of_eq hs4
  have i4 := Nat.le_of_eq hs4.symm
  have i5 := Nat.le_of_eq h5
  have i6 := Nat.le_of_eq h5.symm
  have i7 := Nat.le_of_eq h7
  have i8 := Nat.le_of_eq h7.symm
  have hexb : ∀ k, (k < w1.heap.size ∨ k = w3.heap.size ∨ k = w3.heap.size + 1 ∨ k = w4.heap.size ∨ k = w4.heap.size + 1) → k < w4.heap.size + 2 := fun k hk => by omega
  have hb7 : b7 < w1.heap.size := by omega
  clear hs1 hs4 h5 h7
  refine range_box (α := RR × RR) rfl (by decide) (gf := 143) (lb := #[.pointer (some ⟨w3.heap.size, 0, none⟩), .pointer (some ⟨w3.heap.size + 1, 0, none⟩)]) rfl trivial (enters_of Tryd.func143 (by kernel_rfl) rfl) hseq (fun k hk => by omega) Agree.trans (fun W l o o' hl _ _ _ => Agree.putObj W (.inr hl) o') (Below.refl _ _) (fun _ => rfl)
    (CmbI op w1.heap.size w3.heap.size w4.heap.size b7 w4)
    (fun s A B hs hg => by
      obtain ⟨⟨v, out, h1, h2, h3⟩, h4⟩ := hs
      exact ⟨⟨v, out, h1.agree hg (by omega), h2.agree (hg.mono fun k hk => by omega) hexb, h3⟩, h4.trans (hg.mono fun k hk => by omega)⟩)
    ⟨⟨_, [], F7, Hold.nil _ _, Lib.hid rfl⟩, Agree.refl _ _⟩
    (fun x a' W => ∃ bx bz, w4.heap.size + 2 ≤ bx ∧ w4.heap.size + 2 ≤ bz ∧ Cel W bx 44 [x.1.av, x.1.wv] ∧ Cel W bz 44 [x.2.av, x.2.wv] ∧ a' = { tmps := #[va, vb, .func (.func f) #[] #[], undef, undef, .pointer (some ⟨b5, 0, none⟩), .slice none 0 0, .pointer (some ⟨b7, 0, none⟩), .pointer (some ⟨bx, 0, none⟩), .pointer (some ⟨bz, 0, none⟩), undef, va, .slice pa al.length ca, vb, .slice pb bl.length cb, .func (.func 143) #[] #[.pointer (some ⟨w3.heap.size, 0, none⟩), .pointer (some ⟨w3.heap.size + 1, 0, none⟩)], .agg #[x.1.av, x.1.wv], .agg #[x.2.av, x.2.wv], undef, undef, undef, undef, undef, undef, undef, undef, undef, undef, undef, undef, undef, undef, undef, undef, undef], defers := [] })
    (fun x a' A B hs hg => by obtain ⟨bx, bz, h1, h2, h3, h4, h5⟩ := hs; exact ⟨bx, bz, h1, h2, h3.agree hg (by omega), h4.agree hg (by omega), h5⟩) ?assign ?body ?done
  case assign =>
    rintro l pre x W K hx hsz ⟨⟨v, out, h1, h2, h3⟩, h4⟩ hK
    unfold encPr rowV
    have B9 : Below W.heap.size W ((W.alloc (.cells #[x.1.av, x.1.wv] 44)).alloc (.cells #[x.2.av, x.2.wv] 44)) := below_alloc' (below_new _ _)
    have X9 : Cel ((W.alloc (.cells #[x.1.av, x.1.wv] 44)).alloc (.cells #[x.2.av, x.2.wv] 44)) W.heap.size 44 [x.1.av, x.1.wv] := (Cel.new W 44 [x.1.av, x.1.wv]).keep (below_new _ _)
    have Y9 : Cel ((W.alloc (.cells #[x.1.av, x.1.wv] 44)).alloc (.cells #[x.2.av, x.2.wv] 44)) (W.heap.size + 1) 44 [x.2.av, x.2.wv] := by
      have := Cel.new (W.alloc (.cells #[x.1.av, x.1.wv] 44)) 44 [x.2.av, x.2.wv]
      rwa [World.size_alloc] at this
    gi_wp2
    exact hK _ _ (KeepsFrom.of_grownBy (row := none) (grown_of B9) (fun _ e => by cases e)) (.of_below B9) ⟨⟨v, out, h1.keep B9, h2.keep B9, h3⟩, h4.trans (.of_below B9)⟩ ⟨W.heap.size, W.heap.size + 1, hsz, by omega, X9, Y9, rfl⟩
  case body =>
    rintro l pre x a' W hl hx ⟨⟨v, out, h1, h2, h3⟩, h4⟩ ⟨bx, bz, hbx, hbz, X9, Y9, rfl⟩ hlt
    obtain ⟨p4, c4, rfl⟩ := h2.form
    have hWs : w4.heap.size + 2 ≤ W.heap.size := by have := X9.lt; omega
    have F5W := F5.agree h4 (by omega)
    have HRW := hRR W h4
    have POK := pair_ok (Ra W HRW) (Rb W HRW) hx
    have BW : Below w.heap.size w W := (below_trans (below_trans B1 (B13.mono (Nat.le_refl _))) (B4.mono (Nat.le_refl _))).trans (h4.below (by omega) (fun k hk => by omega))
    have hTW := hT.keep BW
    have q5 := F5W.at_ (j := 0) rfl
    have qx := X9.at_ (j := 1) rfl
    have qz := Y9.at_ (j := 1) rfl
    have hps := pairs_len _ al bl (Nat.le_refl _)
    gi_wp2_with fail
    rw [hf.enter, Oper.uponIn_enter]
    refine ⟨trivial, fun _ => by omega, ?_⟩
    (with_reducible refine (CallsIn.inRound l (callsIn_wide.2 (hf.call _ _ x.1.s x.2.s _ hTW POK.1.spans POK.2.spans))).mono ?_)
    rintro e W5 ⟨u5, rfl, ⟨h5, f5⟩, B5⟩
    obtain ⟨S, hS⟩ : ∃ S, Hid ((canon fun k => op (setOf x.1.s k) (setOf x.2.s k)) = S) := ⟨_, Lib.hid rfl⟩
    rw [hS.out] at h5
    obtain ⟨p5, c5, rfl, h5⟩ := h5
    have hSl : S.length ≤ 32 := by rw [← hS.out]; exact canon_le _
    have H15 := h1.keep B5
    have A45 : Agree (fun k => k = b7 ∨ k = w3.heap.size ∨ k = w3.heap.size + 1 ∨ w4.heap.size ≤ k) w4 W5 := h4.trans (.of_below B5)
    have q7 := H15.at_ (j := 0) rfl
    have qt := (X9.keep B5).at_ (j := 0) rfl
    by_cases hS0 : S.length = 0
    · have hSz : ¬ (0 : Int) < (S.length : Int) := by omega
      have CN : Hid (rows out = combL op (pre ++ [x])) := Lib.hid (by rw [combL_append, h3.out]; unfold comb1; rw [hS.out, if_pos (List.eq_nil_of_length_eq_zero hS0), List.append_nil])
      gi_wp2
      exact ⟨KeepsFrom.of_grownBy (row := none) (grown_of B5) (fun _ e => by cases e), .of_below B5, ⟨_, out, H15, h2.keep B5, CN⟩, A45⟩
    · have hSz : (0 : Int) < (S.length : Int) := by omega
      have CN : Hid (rows (out ++ [⟨x.1.pa, x.1.ca, x.1.t, p5, c5, S⟩]) = combL op (pre ++ [x])) := Lib.hid (by
        rw [combL_append, rows_append, h3.out]; unfold comb1; rw [hS.out, if_neg (fun e => hS0 (by rw [e]; rfl))]; rfl)
      have hq : Off RowOk (W5.alloc (.cells #[x.1.av, .slice p5 S.length c5] 44)) (Ex (.slice p4 out.length c4) (fun k => k < w1.heap.size ∨ k = w3.heap.size ∨ k = w3.heap.size + 1 ∨ k = w4.heap.size ∨ k = w4.heap.size + 1)) ⟨x.1.pa, x.1.ca, x.1.t, p5, c5, S⟩ := fun B hB => by
        have A46 := A45.alloc (.cells #[x.1.av, .slice p5 S.length c5] 44)
        have h3B : Agree (fun k => k < w1.heap.size) w3 B := ⟨hB.os.trans (A46.os.trans B4.os), hB.tape.trans (A46.tape.trans B4.tape), hB.output.trans (A46.output.trans B4.output), Nat.le_trans B4.size (Nat.le_trans A46.size hB.size), fun k hk hn =>
          (hB.block k (by have := A46.size; omega) (fun e => by
            rcases e with e | e
            · have := (h2.1.lt k e).1; omega
            · omega)).trans ((A46.block k (by omega) (by omega)).trans (B4.block k hk))⟩
        refine ⟨(pair_ok (Ra B h3B) (Rb B h3B) hx).1.vals, ?_⟩
        refine IsSpans.agree (w := W5.alloc (.cells #[x.1.av, .slice p5 S.length c5] 44)) (IsSpans.keep ⟨p5, c5, rfl, h5⟩ (below_new _ _)) hB fun b hb e => ?_
        have := f5 b hb
        rcases e with e | e
        · have := (h2.1.lt b e).2; omega
        · omega
      have hm : IsRows 2 encR (W5.alloc (.cells #[x.1.av, .slice p5 S.length c5] 44)) (.slice (some ⟨W5.heap.size, 0, none⟩) 1 1) [⟨x.1.pa, x.1.ca, x.1.t, p5, c5, S⟩] := IsRows.lit W5 [_] encsR (by simp)
      have B56 : Below W.heap.size W (W5.alloc (.cells #[x.1.av, .slice p5 S.length c5] 44)) := below_trans B5 (below_new _ _)
      have H16 := H15.keep (below_new W5 (.cells #[x.1.av, .slice p5 S.length c5] 44))
      have hol : out.length ≤ 1000000 := by
        have e1 : out.length = (combL op pre).length := by rw [← h3.out, rows_length]
        have e2 : (combL op pre).length ≤ pre.length := comb_len pre
        omega
      gi_wp2_with (gi_at_builtin; refine wpListIn_hold fitsR24 encsR rfl _ _ rfl rfl rfl h2 B56 hm (fun u hu => by rw [List.mem_singleton.1 hu]; exact hq) hWs hol (by simp) ?_; intro p9 c9 W7 H9 B9 hG9; rw [show (out ++ [(⟨x.1.pa, x.1.ca, x.1.t, p5, c5, S⟩ : RR)]).length = out.length + 1 by simp] at H9; have H17 := Cel.agree (X := Ex (.slice p4 out.length c4) noB) H16 (.of_grown hG9 fun k hk => .inl hk) (fun e => by rcases e with e | e; (have := (h2.1.lt _ e).1; omega); exact e); have q17 := H17.at_ (j := 0) rfl; have f17 := H17.free 0)
      have AG : Agree (fun k => k = b7 ∨ Value.ownBlock (.slice p4 out.length c4) = some k) W (W7.setCell ⟨b7, 0, none⟩ (.slice p9 (out.length + 1) c9)) :=
        ((Agree.of_below B56).trans (.of_grown hG9 fun k hk => .inr hk)).setCell (.inl (.inl rfl)) _
      refine ⟨keeps_of AG fun k hk o ho => ?_, AG.mono fun k hk => ?_, ⟨_, _, H17.set 0 _, ?_, CN⟩, ?_⟩
      · rcases hk with rfl | hk
        · rw [h1] at ho; cases ho; rfl
        · exact h2.1.cells hk o ho
      · rcases hk with hk | hk
        · exact .inl hk
        · exact .inr (by have := (h2.1.lt k hk).1; omega)
      · exact H9.agree ((Agree.refl _ _).setCell (.inl (.inl hb7)) _) hexb
      · exact h4.trans (AG.mono fun k hk => by
          rcases hk with hk | hk
          · exact .inl hk
          · have := (h2.1.lt k hk).1; omega)
  case done =>
    rintro zs W hS ⟨⟨v, out, h1, h2, h3⟩, h4⟩ hK
    obtain ⟨p4, c4, rfl⟩ := h2.form
    have q7 := h1.at_ (j := 0) rfl
    have hps := pairs_len _ al bl (Nat.le_refl _)
    have hol : out.length ≤ 1000000 := by
      have e1 : out.length = (combL op zs).length := by rw [← h3.out, rows_length]
      have e2 : (combL op zs).length ≤ zs.length := comb_len zs
      rw [hS] at e1 e2
      omega
    rw [hS] at h3
    have RES := Lib.hid (opOf_comb h0 HCA.out HCB.out h3.out)
    clear hS
    gi_wp2
    refine ⟨by simp, .inl ⟨_, _, rfl, run_takeDeferred hK, ?_⟩⟩
    refine ⟨_, results_tmp rfl _ _ _, _, rfl, out, ?_, RES.out, ?_⟩
    · exact ((h2.agree (Agree.putObj (l := w4.heap.size) W (.inr (.inr (.inr (.inl rfl)))) _) hexb).less fun k hk => .inl (by omega)).relF (by omega) (by omega)
    · have BW : Below w.heap.size w W := (below_trans (below_trans B1 B13) B4).trans (h4.below (by omega) (fun k hk => by omega))
      exact BW.trans ((Agree.putObj (X := fun k => k = w4.heap.size) (l := w4.heap.size) W rfl _).below (by have := BW.size; omega) fun k hk => by omega)
theorem combine_any (f : FuncId) (op : Bool → Bool → Bool) (h0 : op false false = false) (hf : Moms f op) (va vb : Value) (xs ys : List RR) (w : World) (hT : Tab w) (ha : IsRel w va xs) (hb : IsRel w vb ys) (sa : Sml 10000 xs) (sb : Sml 10000 ys) :
    Calls Tryd.prog 83 #[va, vb, .func (.func f) #[] #[]] w fun e w' => ∃ u, e = .returned u ∧ ∃ zs, IsRelF w' w.heap.size u zs ∧ OpOf op xs ys zs ∧ Below w.heap.size w w' := callsIn_wide.1 (combine_in f op h0 hf va vb xs ys w hT ha hb sa sb)
end Go.Proofs.YtdibijhaiaiifaaDoor
/- A region that draws its order, only reads, and calls functions that may make memory: walked once. Union, Meet, Minus, Insert, Remove. -/
namespace Go.Proofs.YtdibijhaiaiifaaDoor
open Go.RowKit
structure AftB (w : World) where
  w' : World
  ok : Below w.heap.size w w'
instance (w : World) : Inhabited (AftB w) := ⟨⟨w, Below.refl _ w⟩⟩
theorem AftB.cell {w : World} {a : Addr} {v : Value} (h : w.cell? a = some v) : ∀ p : AftB w, p.w'.cell? a = some v := fun p => cell_keep p.ok h
theorem AftB.call {w : World} {f : FuncId} {args : Array Value} {v : Value} {p : AftB w} (h : Calls Tryd.prog f args p.w' fun e w' => e = .returned v ∧ Below p.w'.heap.size p.w' w') : Calls Tryd.prog f args p.w' fun e w'' => e = .returned v ∧ ∃ q : AftB w, w'' = q.w' :=
  h.mono fun _ w'' ⟨he, hg⟩ => ⟨he, ⟨w'', below_trans p.ok hg⟩, rfl⟩
theorem wp_region_aftB {id : Nat} {Q : Exit → Act → World → Prop} {a : Act} {w : World} {l : List Oper} (hm : Tryd.prog.follows .mixedOrders = true) (hB : Region.lexB .any l.toArray = true)
    (h : wpQuiet Tryd.prog l.toArray (fun w' => ∃ p : AftB w, w' = p.w') (fun a' => ∀ w', Below w.heap.size w w' → Q .normal a' w') l a) : (Code.region id l.toArray true).wp Tryd.prog Q a w :=
  wp_region_quiet (C := fun w' => ∃ p : AftB w, w' = p.w') hm hB ⟨⟨w.drew, (Below.refl _ w).drew⟩, rfl⟩ (by
    have e : (fun a' => ∀ w', Below w.heap.size w w' → Q .normal a' w') = fun a' => ∀ w', (∃ p : AftB w, w' = p.w') → Q .normal a' w' := by
      funext a'
      refine propext ⟨fun h w' ⟨p, hp⟩ => by subst hp; exact h _ p.ok, fun h w' hg => h w' ⟨⟨w', hg⟩, rfl⟩⟩
    rw [← e]; simpa using h)
/-! ### the operations on relations -/
def RelRet (op : Bool → Bool → Bool) (xs ys : List RR) (w : World) (e : Ending) (w' : World) : Prop := ∃ u, e = .returned u ∧ ∃ zs, IsRelF w' w.heap.size u zs ∧ OpOf op xs ys zs ∧ Below w.heap.size w w'
def opU (x y : Bool) : Bool := x || y
def opM (x y : Bool) : Bool := x && y
def opD (x y : Bool) : Bool := x && !y
theorem momsU : Moms 49 opU := ⟨enters_of Tryd.func49 (by kernel_rfl) rfl, fun va vb a b w hT ha hb => Union_any va vb a b w hT ha hb⟩
theorem momsM : Moms 84 opM := ⟨enters_of Tryd.func84 (by kernel_rfl) rfl, fun va vb a b w hT ha hb => Meet_any va vb a b w hT ha hb⟩
theorem momsD : Moms 48 opD := ⟨enters_of Tryd.func48 (by kernel_rfl) rfl, fun va vb a b w hT ha hb => Minus_any va vb a b w hT ha hb⟩
section
variable (va vb : Value) (xs ys : List RR) (w : World) (hT : Tab w) (ha : IsRel w va xs) (hb : IsRel w vb ys) (sa : Sml 10000 xs) (sb : Sml 10000 ys)
include hT ha hb sa sb
theorem UnionR_any : Calls Tryd.prog 29 #[va, vb] w (RelRet opU xs ys w) := by
  go_enter Tryd.func29, Tryd.ntmps29
  go_wp2_with fail
  refine (combine_any 49 opU rfl momsU va vb xs ys _ hT ha hb sa sb).mono ?_
  rintro e w1 ⟨u, rfl, zs, h1, h2, h3⟩
  go_wp2
  go_ret
  exact ⟨u, rfl, zs, h1, h2, h3⟩
theorem MeetR_any : Calls Tryd.prog 31 #[va, vb] w (RelRet opM xs ys w) := by
  go_enter Tryd.func31, Tryd.ntmps31
  go_wp2_with fail
  refine (combine_any 84 opM rfl momsM va vb xs ys _ hT ha hb sa sb).mono ?_
  rintro e w1 ⟨u, rfl, zs, h1, h2, h3⟩
  go_wp2
  go_ret
  exact ⟨u, rfl, zs, h1, h2, h3⟩
theorem MinusR_any : Calls Tryd.prog 33 #[va, vb] w (RelRet opD xs ys w) := by
  go_enter Tryd.func33, Tryd.ntmps33
  go_wp2_with fail
  refine (combine_any 48 opD rfl momsD va vb xs ys _ hT ha hb sa sb).mono ?_
  rintro e w1 ⟨u, rfl, zs, h1, h2, h3⟩
  go_wp2
  go_ret
  exact ⟨u, rfl, zs, h1, h2, h3⟩
end
/-- A row that lies nowhere. -/
def rr (t : Tp) (s : List Sp) : RR := ⟨none, 0, t, none, 0, s⟩
theorem Sml.one {t : Tp} {s : List Sp} (ht : t.length ≤ 64) (hs : s.length ≤ 64) {n : Nat} (hn : 1 ≤ n) : Sml n [rr t s] := ⟨hn, by simp; exact ⟨ht, hs⟩⟩
theorem OpOf.congr {op : Bool → Bool → Bool} {xs ys ys' zs : List RR} (h : OpOf op xs ys zs) (e : rows ys = rows ys') : OpOf op xs ys' zs := by
  refine ⟨h.can, fun t k hk => by rw [h.mom t k hk, e], fun n m hn hm => h.sml n m hn ⟨?_, fun x hx => ?_⟩⟩
  · have h1 : ys.length = ys'.length := by have := congrArg List.length e; rwa [rows_length, rows_length] at this
    rw [h1]; exact hm.len
  · have h1 : x.rw ∈ rows ys' := by rw [← e]; exact mem_rows.2 ⟨x, hx, rfl⟩
    obtain ⟨y, hy, e'⟩ := mem_rows.1 h1
    have := hm.each y hy
    have e1 : y.t = x.t := congrArg Prod.fst e'
    have e2 : y.s = x.s := congrArg Prod.snd e'
    rwa [e1, e2] at this
section
variable (va vt vs : Value) (xs : List RR) (t : Tp) (s : List Sp) (w : World) (hT : Tab w) (ha : IsRel w va xs) (ht : IsVals w vt t) (hs : IsSpans w vs s) (sa : Sml 10000 xs) (st : t.length ≤ 64) (ss : s.length ≤ 64)
include hT ha ht hs sa st ss
theorem InsertR_any : Calls Tryd.prog 25 #[va, vt, vs] w (RelRet opU xs [rr t s] w) := by
  obtain ⟨pt, ct, rfl, ht⟩ := ht
  obtain ⟨ps, cs, rfl, hs⟩ := hs
  have B1 := below_new w (.cells #[.slice pt t.length ct, .slice ps s.length cs] 44)
  have hm : IsRel (w.alloc (.cells #[.slice pt t.length ct, .slice ps s.length cs] 44)) (.slice (some ⟨w.heap.size, 0, none⟩) 1 1) [⟨pt, ct, t, ps, cs, s⟩] := ⟨IsRows.lit w [_] encsR (by simp), fun x hx => by rw [List.mem_singleton.1 hx]; exact RowOk.keep ⟨⟨pt, ct, rfl, ht⟩, ⟨ps, cs, rfl, hs⟩⟩ B1⟩
  go_enter Tryd.func25, Tryd.ntmps25
  go_wp2_with fail
  refine (UnionR_any _ _ xs _ _ (hT.keep B1) (ha.keep B1) hm sa ⟨by simp, by simp; exact ⟨st, ss⟩⟩).mono ?_
  rintro e w1 ⟨u, rfl, zs, h1, h2, h3⟩
  go_wp2
  go_ret
  exact ⟨u, rfl, zs, h1.mono B1.size, h2.congr rfl, below_trans B1 h3⟩
theorem RemoveR_any : Calls Tryd.prog 27 #[va, vt, vs] w (RelRet opD xs [rr t s] w) := by
  obtain ⟨pt, ct, rfl, ht⟩ := ht
  obtain ⟨ps, cs, rfl, hs⟩ := hs
  have B1 := below_new w (.cells #[.slice pt t.length ct, .slice ps s.length cs] 44)
  have hm : IsRel (w.alloc (.cells #[.slice pt t.length ct, .slice ps s.length cs] 44)) (.slice (some ⟨w.heap.size, 0, none⟩) 1 1) [⟨pt, ct, t, ps, cs, s⟩] := ⟨IsRows.lit w [_] encsR (by simp), fun x hx => by rw [List.mem_singleton.1 hx]; exact RowOk.keep ⟨⟨pt, ct, rfl, ht⟩, ⟨ps, cs, rfl, hs⟩⟩ B1⟩
  go_enter Tryd.func27, Tryd.ntmps27
  go_wp2_with fail
  refine (MinusR_any _ _ xs _ _ (hT.keep B1) (ha.keep B1) hm sa ⟨by simp, by simp; exact ⟨st, ss⟩⟩).mono ?_
  rintro e w1 ⟨u, rfl, zs, h1, h2, h3⟩
  go_wp2
  go_ret
  exact ⟨u, rfl, zs, h1.mono B1.size, h2.congr rfl, below_trans B1 h3⟩
end
end Go.Proofs.YtdibijhaiaiifaaDoor
/- The walks of When and filter. -/
namespace Go.Proofs.YtdibijhaiaiifaaDoor
open Go.RowKit
structure WhI (xs : List RR) (t : Tp) (i : Nat) (W : List Sp) : Prop where
  set : ∀ j, setOf W j = mom (rows (xs.take i)) t j
  len : (∀ x ∈ xs, x.t.length ≤ 64 ∧ x.s.length ≤ 64) → W.length ≤ i * 64
theorem WhI.start (xs : List RR) (t : Tp) : WhI xs t 0 [] := ⟨fun j => by simp; rfl, by simp⟩
theorem mom_one (x : RR) (t : Tp) (j : Nat) : mom (rows [x]) t j = (decide (x.t = t) && setOf x.s j) := by
  show ((decide (x.t = t) && setOf x.s j) || false) = _
  rw [Bool.or_false]
theorem take_succ' {α : Type} {xs : List α} {i : Nat} {x : α} (hx : xs[i]? = some x) : xs.take (i + 1) = xs.take i ++ [x] := by rw [List.take_add_one, hx]; rfl
theorem WhI.hit {xs : List RR} {t : Tp} {i : Nat} {W : List Sp} (h : WhI xs t i W) {x : RR} (hx : xs[i]? = some x) (e : cmpT x.t t = 0) : WhI xs t (i + 1) (W ++ x.s) := by
  refine ⟨fun j => ?_, fun hs => ?_⟩
  · rw [setOf_cat, take_succ' hx, rows_append, mom_append, mom_one, decide_eq_true ((cmpT_is.eq _ _).1 e), Bool.true_and, h.set j]
  · have h1 := h.len hs
    have h2 := (hs x (List.mem_of_getElem? hx)).2
    rw [List.length_append, Nat.add_mul]; omega
theorem WhI.miss {xs : List RR} {t : Tp} {i : Nat} {W : List Sp} (h : WhI xs t i W) {x : RR} (hx : xs[i]? = some x) (e : ¬ cmpT x.t t = 0) : WhI xs t (i + 1) W := by
  refine ⟨fun j => ?_, fun hs => ?_⟩
  · rw [take_succ' hx, rows_append, mom_append, mom_one, decide_eq_false (fun q => e ((cmpT_is.eq _ _).2 q)), Bool.false_and, Bool.or_false, h.set j]
  · have h1 := h.len hs; omega
theorem IsVals.keep2 {w w' : World} {v : Value} {l : Tp} (h : IsVals w v l) (hb : Below w.heap.size w w') : IsVals w' v l := h.keep hb
set_option maxHeartbeats 4000000 in
set_option maxRecDepth 1000000 in
theorem WhenR_any (va vt : Value) (xs : List RR) (t : Tp) (w : World) (hT : Tab w) (ha : IsRel w va xs) (ht : IsVals w vt t) (sa : Sml 10000 xs) :
    Calls Tryd.prog 22 #[va, vt] w fun e w' => ∃ u, e = .returned u ∧ IsSpansF w' w.heap.size u (canon fun k => mom (rows xs) t k) ∧ Below w.heap.size w w' := by
  have HS := Lib.hid sa.each
  have hl := sa.len
  clear sa
  obtain ⟨pa, pc, rfl, -⟩ := ha.shape
  go_enter Tryd.func22, Tryd.ntmps22
  go_wp2
  go_loopg [5, 10] xs.length (fun g v5 vi wr => ∃ (i : Nat) (W : List Sp), vi = .int .i64 i ∧ i ≤ xs.length ∧ xs.length - i ≤ g ∧ Hid (WhI xs t i W) ∧ Owns 2 86 encSp wr w.heap.size v5 W ∧ Below w.heap.size w wr)
  case atStart => exact ⟨0, [], rfl, Nat.zero_le _, Nat.le_refl _, Lib.hid (WhI.start _ _), Owns.nil _ _, Below.refl _ _⟩
  case round =>
    obtain ⟨i, W, rfl, hi, hg, V, H5, B⟩ := hrel
    obtain ⟨p5, c5, rfl⟩ := H5.form
    have hWl : W.length ≤ 1000000 := by have := V.out.len HS.out; omega
    by_cases hlt : i < xs.length
    · have hltz : (i : Int) < (xs.length : Int) := by omega
      obtain ⟨x, hx⟩ := getElem_of_lt hlt
      obtain ⟨b, off, e, c0, c1, rx⟩ := (ha.keep B).at_ hx
      cases e
      have VH := Lib.hid (V.out.hit hx)
      have VM := Lib.hid (V.out.miss hx)
      have hxl := (HS.out x (List.mem_of_getElem? hx)).2
      clear hx
      go_upto_region 5 with fail
      have BA := below_new wr (.cells #[x.av, x.wv] 44)
      have X := Cel.new wr 44 [x.av, x.wv]
      obtain ⟨wA, hwA⟩ : ∃ z, wr.alloc (.cells #[x.av, x.wv] 44) = z := ⟨_, rfl⟩
      have X' : Cel wA wr.heap.size 44 [x.av, x.wv] := by rw [← hwA]; exact X
      rw [hwA] at BA
      rw [hwA]
      clear hwA X c0 c1
      have q0 := X'.at_ (j := 0) rfl
      have q1 := X'.at_ (j := 1) rfl
      have htA := (ht.keep B).keep BA
      have rA := rx.keep BA
      have H6 := H5.keep BA
      have B2 := B.trans (BA.mono B.size)
      go_wp2_with fail
      refine (CompareTuple_any _ _ x.t t _ rA.1 htA).mono ?_
      rintro e w5 ⟨rfl, g5⟩
      obtain ⟨r, hr⟩ : ∃ r, cmpT x.t t = r := ⟨_, rfl⟩
      rw [hr] at VH VM
      rw [hr]
      clear hr
      replace q1 := cell_keep g5.below q1
      have hs5 := (rA.keep g5.below).2.rows
      replace H6 := H6.keep g5.below
      replace B2 := B2.trans (g5.below.mono B2.size)
      clear q0 htA rA g5 X' BA rx
      by_cases hr0 : r = 0
      · have VN := Lib.hid (VH.out hr0)
        subst hr0
        go_wp2_with (at_builtin; refine wpList_cat fitsS encsS rfl _ _ rfl rfl rfl H6 (Below.refl _ _) hs5 B2.size hWl (by omega) ?_; intro p1 c1 w7 hO hB hG)
        go_roundg (xs.length - (i + 1))
        case measure => omega
        case rel => exact ⟨i + 1, _, by go_num, hlt, Nat.le_refl _, VN, by rw [List.length_append] at hO; exact hO, B2.trans hB⟩
      · have VN := Lib.hid (VM.out hr0)
        have hrb : (r == 0) = false := by rw [beq_eq_false_iff_ne]; exact hr0
        go_wp2
        go_roundg (xs.length - (i + 1))
        case measure => omega
        case rel => exact ⟨i + 1, W, by go_num, hlt, Nat.le_refl _, VN, H6, B2⟩
    · have hltz : ¬ (i : Int) < (xs.length : Int) := by omega
      have RES := Lib.hid (show canon (setOf W) = canon fun k => mom (rows xs) t k from canon_ext fun k _ => by rw [V.out.set k, List.take_of_length_le (by omega)])
      have h6 := IsSpans.of_rows (H5.is encsS (by omega))
      go_wp2_with fail
      refine (Of_any _ W _ (hT.keep B) h6).mono ?_
      rintro e w5 ⟨u5, rfl, ⟨h5, f5⟩, B5⟩
      rw [RES.out] at h5
      go_wp2
      go_ret
      exact ⟨u5, rfl, ⟨h5, f5.mono B.size⟩, B.trans (B5.mono B.size)⟩
theorem filter_take {α : Type} {P : α → Bool} {xs : List α} {i : Nat} {x : α} (hx : xs[i]? = some x) : (xs.take (i + 1)).filter P = (xs.take i).filter P ++ (if P x = true then [x] else []) := by
  rw [take_succ' hx, List.filter_append]
  congr 1
  cases h : P x <;> simp [h]
set_option maxHeartbeats 4000000 in
set_option maxRecDepth 1000000 in
theorem filter_any (g : FuncId) (ad : Addr) (P : RR → Bool) (va : Value) (xs : List RR) (w : World) (henter : ∀ args w, (callFunc g args).run Tryd.prog w = .ok (.enter g args) w)
    (hcall : ∀ W, Below w.heap.size w W → ∀ x ∈ xs, Calls Tryd.prog g #[rowV x, .pointer (some ad)] W fun e W' => e = .returned (.bool (P x)) ∧ Below W.heap.size W W') (ha : IsRel w va xs) (hl : xs.length ≤ 1000000) :
    Calls Tryd.prog 86 #[va, .func (.func g) #[] #[.pointer (some ad)]] w fun e w' => ∃ u, e = .returned u ∧ IsRel w' u (xs.filter P) ∧ Below w.heap.size w w' := by
  obtain ⟨pa, pc, rfl, -⟩ := ha.shape
  go_enter Tryd.func86, Tryd.ntmps86
  go_wp2
  go_loopg [5, 9] xs.length (fun g v5 vi wr => ∃ (i : Nat) (out : List RR), vi = .int .i64 i ∧ i ≤ xs.length ∧ xs.length - i ≤ g ∧ Hid (out = (xs.take i).filter P) ∧ Hold 2 44 encR RowOk noB wr w.heap.size v5 out ∧ Below w.heap.size w wr)
  case atStart => exact ⟨0, [], rfl, Nat.zero_le _, Nat.le_refl _, Lib.hid (by simp), Hold.nil _ _, Below.refl _ _⟩
  case round =>
    obtain ⟨i, out, rfl, hi, hg, V, H5, B⟩ := hrel
    obtain ⟨p5, c5, rfl⟩ := H5.form
    have hol : out.length ≤ 1000000 := by
      have h1 := List.length_filter_le P (xs.take i)
      have h2 := List.length_take_le i xs
      rw [← V.out] at h1
      have := List.length_take_le' i xs
      omega
    by_cases hlt : i < xs.length
    · have hltz : (i : Int) < (xs.length : Int) := by omega
      obtain ⟨x, hx⟩ := getElem_of_lt hlt
      obtain ⟨b, off, e, c0, c1, rx⟩ := (ha.keep B).at_ hx
      cases e
      have hxm := List.mem_of_getElem? hx
      have hC := hcall _ B x hxm
      have VN := Lib.hid (filter_take (P := P) hx)
      obtain ⟨q, hq⟩ : ∃ q, P x = q := ⟨_, rfl⟩
      rw [hq] at hC VN
      clear hx hq
      unfold rowV at hC
      go_wp2_with fail
      refine hC.mono ?_
      rintro e w5 ⟨rfl, B5⟩
      have R5 := (ha.keep B).keep B5
      replace c0 := cell_keep B5 c0
      replace c1 := cell_keep B5 c1
      have H6 := H5.keep B5
      have B6 := B.trans (B5.mono B.size)
      cases q
      · have VN' := Lib.hid (show out = (xs.take (i + 1)).filter P by rw [VN.out, ← V.out]; simp)
        clear R5
        go_wp2
        go_roundg (xs.length - (i + 1))
        case measure => omega
        case rel => exact ⟨i + 1, out, by go_num, hlt, Nat.le_refl _, VN', H6, B6⟩
      · have VN' := Lib.hid (show out ++ [x] = (xs.take (i + 1)).filter P by rw [VN.out, ← V.out]; simp)
        have hm : IsRows 2 encR (w5.alloc (.cells #[x.av, x.wv] 44)) (.slice (some ⟨w5.heap.size, 0, none⟩) 1 1) [x] := IsRows.lit w5 [_] encsR (by simp)
        have B7 := below_new w5 (.cells #[x.av, x.wv] 44)
        have hmo : ∀ u ∈ [x], Off RowOk (w5.alloc (.cells #[x.av, x.wv] 44)) (Ex (.slice p5 out.length c5) noB) u := fun u hu => by
          rw [List.mem_singleton.1 hu]
          refine Off.old (w := w) (fun a b => rowOk_keep a b x) (ha.2 x hxm) (B6.trans (B7.mono B6.size)) fun k hk => ?_
          rcases hk with hk | hk
          · exact (H6.1.lt k hk).1
          · exact hk.elim
        clear R5
        go_wp2_with (at_builtin; refine wpList_hold fitsR23 encsR rfl _ _ rfl rfl rfl H6 B7 hm hmo B6.size hol (by simp) ?_; intro p9 c9 w9 H9 B9 hG9; rw [show (out ++ [x]).length = out.length + 1 by simp] at H9)
        go_roundg (xs.length - (i + 1))
        case measure => omega
        case rel => exact ⟨i + 1, _, by go_num, hlt, Nat.le_refl _, VN', H9, B6.trans B9⟩
    · have hltz : ¬ (i : Int) < (xs.length : Int) := by omega
      have RES := Lib.hid (show out = xs.filter P by rw [V.out, List.take_of_length_le (by omega)])
      go_wp2
      go_ret
      exact ⟨_, rfl, by rw [← RES.out]; exact H5.rel (by omega), B⟩
end Go.Proofs.YtdibijhaiaiifaaDoor
/- The walk of At. -/
namespace Go.Proofs.YtdibijhaiaiifaaDoor
open Go.RowKit
/-- A tuple in memory. -/
structure TT where
  p : Option Addr
  c : Nat
  t : Tp
abbrev TT.v (x : TT) : Value := .slice x.p x.t.length x.c
def encTT (x : TT) : List Value := [x.v]
def TupOk (w : World) (x : TT) : Prop := IsVals w x.v x.t
theorem tupOk_keep (w w' : World) (x : TT) (h : Below w.heap.size w w') (k : TupOk w x) : TupOk w' x := IsVals.keep k h
theorem encsT : Encs 1 encTT := ⟨fun _ => rfl, fun x u hu => by unfold encTT at hu; simp at hu; subst hu; rfl⟩
theorem fitsT : Fits 36 25 1 24 (.slice none 0 0) := ⟨Tryd.underlying36, by kernel_rfl, by kernel_rfl, by decide, by decide⟩
def IsTups (w : World) (v : Value) (ts : List TT) : Prop := IsRows 1 encTT w v ts ∧ ∀ x ∈ ts, TupOk w x
theorem IsTups.keep {w w' : World} {v : Value} {ts : List TT} (h : IsTups w v ts) (hb : Below w.heap.size w w') : IsTups w' v ts := ⟨h.1.keep (keeps_below hb), fun x hx => tupOk_keep w w' x hb (h.2 x hx)⟩
theorem IsTups.shape {w : World} {v : Value} {ts : List TT} (h : IsTups w v ts) : ∃ a c, v = .slice a ts.length c ∧ ts.length ≤ 9223372036854775807 ∧ ts.length ≤ c ∧ c ≤ 9223372036854775807 := by
  obtain ⟨⟨a, c, e, _, hm⟩, _⟩ := h
  exact ⟨a, c, e, hm⟩
theorem IsTups.at_ {w : World} {a : Option Addr} {n c : Nat} {ts : List TT} (h : IsTups w (.slice a n c) ts) {i : Nat} {x : TT} (hi : ts[i]? = some x) : ∃ b off, a = some ⟨b, off, none⟩ ∧ w.cell? ⟨b, off + i, none⟩ = some x.v ∧ TupOk w x := by
  obtain ⟨⟨a', c', e, hr, hm⟩, h2⟩ := h
  injection e with e1 e2 e3
  subst e1
  obtain ⟨b, off, ha, hc⟩ := hr.at_ hi
  have := hc i x hi 0 _ rfl
  exact ⟨b, off, ha, by simpa using this, h2 x (List.mem_of_getElem? hi)⟩
theorem Hold.tups {w : World} {base : Nat} {v : Value} {l : List TT} {ex : Nat → Prop} (h : Hold 1 25 encTT TupOk ex w base v l) (hm : l.length ≤ 9223372036854775807) : IsTups w v l := ⟨h.1.is encsT hm, fun x hx => Off.here (h.2 x hx)⟩
/-- The tuples at a moment. -/
def AtOf (xs : List RR) (m : Int) (l : List Tp) : Prop := ∃ ys, CanOf xs ys ∧ l = (ys.filter fun y => inSet y.s m).map (·.t)
theorem at1_any (x : RR) (b3 : Nat) (m : Int) (w : World) (hx : RowOk w x) (hb : w.cell? ⟨b3, 0, none⟩ = some (.int .i64 m)) :
    Calls Tryd.prog 88 #[rowV x, .pointer (some ⟨b3, 0, none⟩)] w fun e w' => e = .returned (.bool (inSet x.s m)) ∧ Below w.heap.size w w' := by
  unfold rowV
  have BA := below_new w (.cells #[x.av, x.wv] 44)
  have X := Cel.new w 44 [x.av, x.wv]
  go_enter Tryd.func88, Tryd.ntmps88
  go_upto_region 1 with fail
  obtain ⟨wA, hwA⟩ : ∃ z, w.alloc (.cells #[x.av, x.wv] 44) = z := ⟨_, rfl⟩
  have X' : Cel wA w.heap.size 44 [x.av, x.wv] := by rw [← hwA]; exact X
  rw [hwA] at BA
  rw [hwA]
  clear hwA X
  have q1 := X'.at_ (j := 1) rfl
  replace hb := cell_keep BA hb
  have rA := hx.keep BA
  go_wp2_with fail
  refine (Has_any _ x.s m _ rA.2).mono ?_
  rintro e w1 ⟨rfl, B1⟩
  go_wp2
  go_ret
  exact ⟨rfl, below_trans BA B1⟩
set_option maxHeartbeats 4000000 in
set_option maxRecDepth 1000000 in
theorem AtR_any (va : Value) (xs : List RR) (m : Int) (w : World) (hT : Tab w) (ha : IsRel w va xs) (sa : Sml 10000 xs) :
    Calls Tryd.prog 36 #[va, .int .i64 m] w fun e w' => ∃ u, e = .returned u ∧ ∃ ts, IsTups w' u ts ∧ Hid (AtOf xs m (ts.map (·.t))) ∧ ts.length ≤ xs.length ∧ Below w.heap.size w w' := by
  have HS := Lib.hid sa
  have B1 := below_new w (.cells #[.int .i64 m] 3)
  have X := Cel.new w 3 [.int .i64 m]
  go_enter Tryd.func36, Tryd.ntmps36
  go_upto_region 1 with fail
  obtain ⟨w1, hw1⟩ : ∃ z, w.alloc (.cells #[.int .i64 m] 3) = z := ⟨_, rfl⟩
  have X' : Cel w1 w.heap.size 3 [.int .i64 m] := by rw [← hw1]; exact X
  rw [hw1] at B1
  rw [hw1]
  clear hw1 X
  obtain ⟨b3, hb3⟩ : ∃ b3, w.heap.size = b3 := ⟨_, rfl⟩
  rw [hb3] at X'
  rw [hb3]
  clear hb3
  go_wp2_with fail
  refine (canonical_any va xs _ (hT.keep B1) (ha.keep B1) sa).mono ?_
  rintro e w2 ⟨ua, rfl, al, Ra, Ca, B2⟩
  have hal : al.length ≤ xs.length := (Ca.sml xs.length ⟨Nat.le_refl _, sa.each⟩).len
  have hxl := sa.len
  have HC := Lib.hid Ca
  have R2 := Ra.rel
  obtain ⟨pa, ca, rfl, -⟩ := R2.shape
  clear sa Ca Ra ha
  have X2 := X'.keep B2
  go_wp2_with fail
  refine (filter_any 88 ⟨b3, 0, none⟩ (fun x => inSet x.s m) _ al _ (enters_of Tryd.func88 (by kernel_rfl) rfl) (fun W hW x hx => at1_any x b3 m W ((R2.2 x hx).keep hW) (cell_keep hW (X2.at_ (j := 0) rfl))) R2 (by omega)).mono ?_
  rintro e w3 ⟨uf, rfl, R3, B3⟩
  obtain ⟨L, HL⟩ : ∃ L, Hid (al.filter (fun x => inSet x.s m) = L) := ⟨_, Lib.hid rfl⟩
  have hLl : L.length ≤ al.length := by rw [← HL.out]; exact List.length_filter_le _ _
  rw [HL.out] at R3
  obtain ⟨pf, cf, rfl, -⟩ := R3.shape
  replace B3 := below_trans B1 (below_trans B2 B3)
  clear R2 B1 B2 X' X2
  go_wp2
  go_loopg [5, 13] L.length (fun g v5 vi wr => ∃ (i : Nat) (out : List TT), vi = .int .i64 i ∧ i ≤ L.length ∧ L.length - i ≤ g ∧ Hid (out.map (·.t) = (L.take i).map (·.t)) ∧ out.length = i ∧ Hold 1 25 encTT TupOk noB wr w3.heap.size v5 out ∧ Below w3.heap.size w3 wr)
  case atStart => exact ⟨0, [], rfl, Nat.zero_le _, Nat.le_refl _, Lib.hid (by simp), rfl, Hold.nil _ _, Below.refl _ _⟩
  case round =>
    obtain ⟨i, out, rfl, hi, hg, V, hoi, H5, B⟩ := hrel
    have HO := Lib.hid hoi
    obtain ⟨p5, c5, rfl⟩ := H5.form
    have hol : out.length ≤ 1000000 := by omega
    clear hoi
    by_cases hlt : i < L.length
    · have hltz : (i : Int) < (L.length : Int) := by omega
      obtain ⟨x, hx⟩ := getElem_of_lt hlt
      obtain ⟨b, off, e, c0, c1, -⟩ := (R3.keep B).at_ hx
      cases e
      have rx := R3.2 x (List.mem_of_getElem? hx)
      have VN := Lib.hid (show (out ++ [(⟨x.pa, x.ca, x.t⟩ : TT)]).map (·.t) = (L.take (i + 1)).map (·.t) by rw [take_succ' hx, List.map_append, List.map_append, V.out]; rfl)
      clear hx
      go_upto_region 5 with fail
      have BA := below_new wr (.cells #[x.av, x.wv] 44)
      have X := Cel.new wr 44 [x.av, x.wv]
      obtain ⟨wA, hwA⟩ : ∃ z, wr.alloc (.cells #[x.av, x.wv] 44) = z := ⟨_, rfl⟩
      have X' : Cel wA wr.heap.size 44 [x.av, x.wv] := by rw [← hwA]; exact X
      rw [hwA] at BA
      rw [hwA]
      clear hwA X c0 c1
      have q0 := X'.at_ (j := 0) rfl
      have H6 := H5.keep BA
      have B6 := B.trans (BA.mono B.size)
      have hm : IsRows 1 encTT (wA.alloc (.cells #[x.av] 25)) (.slice (some ⟨wA.heap.size, 0, none⟩) 1 1) [⟨x.pa, x.ca, x.t⟩] := IsRows.lit wA [_] encsT (by simp)
      have B7 := below_new wA (.cells #[x.av] 25)
      have hmo : ∀ u ∈ [(⟨x.pa, x.ca, x.t⟩ : TT)], Off TupOk (wA.alloc (.cells #[x.av] 25)) (Ex (.slice p5 out.length c5) noB) u := fun u hu => by
        rw [List.mem_singleton.1 hu]
        refine Off.old (w := w3) (fun a b => tupOk_keep a b _) rx.1 (B6.trans (B7.mono B6.size)) fun k hk => ?_
        rcases hk with hk | hk
        · exact (H6.1.lt k hk).1
        · exact hk.elim
      go_wp2_with (at_builtin; refine wpList_hold fitsT encsT rfl _ _ rfl rfl rfl H6 B7 hm hmo B6.size hol (by simp) ?_; intro p9 c9 w9 H9 B9 hG9; rw [show (out ++ [(⟨x.pa, x.ca, x.t⟩ : TT)]).length = out.length + 1 by simp] at H9)
      go_roundg (L.length - (i + 1))
      case measure => omega
      case rel => exact ⟨i + 1, out ++ [(⟨x.pa, x.ca, x.t⟩ : TT)], by go_num, hlt, Nat.le_refl _, VN, by rw [List.length_append, HO.out]; rfl, H9, B6.trans B9⟩
    · have hltz : ¬ (i : Int) < (L.length : Int) := by omega
      have RES := Lib.hid (show out.map (·.t) = L.map (·.t) by rw [V.out, List.take_of_length_le (by omega)])
      have RT := H5.tups (by omega)
      go_wp2
      go_ret
      exact ⟨_, rfl, out, RT, Lib.hid ⟨al, HC.out, by rw [RES.out, HL.out]⟩, by rw [HO.out]; omega, B3.trans (B.mono B3.size)⟩
end Go.Proofs.YtdibijhaiaiifaaDoor
/- Equality of values and of strings, as the program tests it. -/
namespace Go.Proofs.YtdibijhaiaiifaaDoor
open Go.RowKit
theorem beq_dec (a b : List UInt8) : (a == b) = decide (a = b) := by rw [Bool.eq_iff_iff]; simp
theorem run_eq_str (a b : List UInt8) (w : World) : (binOp .eql 9 (strV a) (strV b)).run Tryd.prog w = .ok (.bool (decide (a = b))) w := by
  simp [go_sem, strV, beq_dec]
theorem run_neq_str (a b : List UInt8) (w : World) : (binOp .neq 9 (strV a) (strV b)).run Tryd.prog w = .ok (.bool (!decide (a = b))) w := by
  simp [go_sem, strV, beq_dec]
theorem run_neq_vl (x y : Vl) (w : World) : (binOp .neq 58 (valV x) (valV y)).run Tryd.prog w = .ok (.bool (!decide (x = y))) w := by
  have hp : Tryd.prog.stoodInHeld 58 = false := by kernel_rfl
  have hf : Tryd.prog.underlying 58 = some (.struct (Tryd.prog.fieldsOf 58)) := by kernel_rfl
  unfold valV
  rw [run_neq_struct, run_equalIn_agg w 9999 58 _ _ hf hp]
  simp [go_sem, strV, beq_dec]
  by_cases h1 : x.t = y.t
  · by_cases h2 : x.n = y.n
    · by_cases h3 : x.s = y.s
      · simp [Vl.ext' h1 h2 h3]
      · have : x ≠ y := fun e => h3 (by rw [e])
        simp [h1, h2, h3, this]
    · have : x ≠ y := fun e => h2 (by rw [e])
      simp [h1, h2, this]
  · have : x ≠ y := fun e => h1 (by rw [e])
    simp [h1, this]
theorem run_eq_vl (x y : Vl) (w : World) : (binOp .eql 58 (valV x) (valV y)).run Tryd.prog w = .ok (.bool (decide (x = y))) w := by
  have hp : Tryd.prog.stoodInHeld 58 = false := by kernel_rfl
  have hf : Tryd.prog.underlying 58 = some (.struct (Tryd.prog.fieldsOf 58)) := by kernel_rfl
  unfold valV
  rw [run_eql_struct, run_equalIn_agg w 9999 58 _ _ hf hp]
  simp [go_sem, strV, beq_dec]
  by_cases h1 : x.t = y.t
  · by_cases h2 : x.n = y.n
    · by_cases h3 : x.s = y.s
      · simp [Vl.ext' h1 h2 h3]
      · have : x ≠ y := fun e => h3 (by rw [e])
        simp [h1, h2, h3, this]
    · have : x ≠ y := fun e => h2 (by rw [e])
      simp [h1, h2, this]
  · have : x ≠ y := fun e => h1 (by rw [e])
    simp [h1, this]
theorem run_guard_vl (op : BinOp) (x y : Operand) (u v : Array Value) (w : World) : (eqGuard op 58 x y (.agg u) (.agg v)).run Tryd.prog w = .ok () w := run_eqGuard_agg w op 58 x y u v (by kernel_rfl)
end Go.Proofs.YtdibijhaiaiifaaDoor
