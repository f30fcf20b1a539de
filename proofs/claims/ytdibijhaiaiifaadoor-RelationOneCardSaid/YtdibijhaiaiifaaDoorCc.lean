/- The walk of combine. -/
import Derived.Test.YtdibijhaiaiifaaDoorCmb
import Derived.Test.YtdibijhaiaiifaaDoorPa
namespace Go.Proofs.YtdibijhaiaiifaaDoor
open Go.RowKit Go.Shelf
attribute [local go_sem] Oper.semAt_some
theorem comb_len {op : Bool → Bool → Bool} : ∀ l : List (RR × RR), (combL op l).length ≤ l.length
  | [] => Nat.le_refl _
  | p :: l => by
    unfold combL
    rw [List.flatMap_cons, List.length_append, List.length_cons]
    have h1 : (comb1 op p).length ≤ 1 := by unfold comb1; split <;> simp
    have h2 := comb_len (op := op) l
    unfold combL at h2
    omega
theorem grown_of {A B : World} {r : Option Nat} (h : Below A.heap.size A B) : A.grownBy B r := ⟨h.os, h.tape, h.output, h.size, fun k hk _ => h.block k hk⟩
theorem keeps_of {X : Nat → Prop} {n : Nat} {A B : World} (h : Agree X A B) (hc : ∀ k, X k → ∀ o, A.heap[k]? = some o → o.isCells = true) : KeepsFrom n A B :=
  ⟨h.size, fun k o _ hk ho => (h.block k (block_lt hk) fun hx => by rw [hc k hx o hk] at ho; cases ho).trans hk⟩
theorem Owns.cells {α : Type} {k : Nat} {e : TypeId} {enc : α → List Value} {w : World} {base : Nat} {v : Value} {l : List α} (h : Owns k e enc w base v l) {g : Nat} (hg : v.ownBlock = some g) : ∀ o, w.heap[g]? = some o → o.isCells = true := by
  intro o ho
  rcases h.2 with ⟨rfl, _⟩ | ⟨g', cap, cur, rfl, _, hh, _⟩
  · cases hg
  · obtain rfl : g' = g := by simpa [Value.ownBlock] using hg
    rw [hh] at ho; cases ho; rfl
theorem pair_ok {B : World} {ua ub : Value} {al bl : List RR} {p : RR × RR} (h1 : IsRel B ua al) (h2 : IsRel B ub bl) (hp : p ∈ pairsL al bl) : RowOk B p.1 ∧ RowOk B p.2 := by
  obtain ⟨a, b⟩ := pairs_mem hp
  constructor
  · rcases a with a | ⟨y, hy, e⟩
    · exact h1.2 _ a
    · rw [e]; exact ⟨(h2.2 y hy).1, IsSpans.nil _⟩
  · rcases b with b | b
    · exact h2.2 _ b
    · rw [b]; exact noRow_ok _
theorem pairs_any (pa pb : Option Addr) (n m ca cb : Nat) (w : World) :
    Calls Tryd.prog 126 #[.slice pa n ca, .slice pb m cb] w fun e w' => e = .returned (.func (.func 143) #[] #[.pointer (some ⟨w.heap.size, 0, none⟩), .pointer (some ⟨w.heap.size + 1, 0, none⟩)]) ∧ w' = (w.alloc (.cells #[.slice pa n ca] 24)).alloc (.cells #[.slice pb m cb] 24) := by
  go_enter Tryd.func126, Tryd.ntmps126
  go_wp2
  go_ret
  exact ⟨by simp, rfl⟩
/-- What combine asks of the operation on moments. -/
structure Moms (f : FuncId) (op : Bool → Bool → Bool) : Prop where
  enter : ∀ args w, (callFunc f args).run Tryd.prog w = .ok (.enter f args) w
  call : ∀ va vb a b w, Tab w → IsSpans w va a → IsSpans w vb b → Calls Tryd.prog f #[va, vb] w fun e w' => ∃ u, e = .returned u ∧ IsSpansF w' w.heap.size u (canon fun k => op (setOf a k) (setOf b k)) ∧ Below w.heap.size w w'
/-- What holds behind some rounds of combine. -/
def CmbI (op : Bool → Bool → Bool) (n1 s3 s4 b7 : Nat) (w4 : World) (pre : List (RR × RR)) (W : World) : Prop :=
  (∃ v out, Cel W b7 24 [v] ∧ Hold 2 44 encR RowOk (fun k => k < n1 ∨ k = s3 ∨ k = s3 + 1 ∨ k = s4 ∨ k = s4 + 1) W (s4 + 2) v out ∧ Hid (rows out = combL op pre)) ∧ Agree (fun k => k = b7 ∨ k = s3 ∨ k = s3 + 1 ∨ s4 ≤ k) w4 W
set_option maxHeartbeats 4000000 in
set_option maxRecDepth 100000 in
theorem combine_in (f : FuncId) (op : Bool → Bool → Bool) (h0 : op false false = false) (hf : Moms f op) (va vb : Value) (xs ys : List RR) (w : World) (hT : Tab w) (ha : IsRel w va xs) (hb : IsRel w vb ys) (sa : Sml 10000 xs) (sb : Sml 10000 ys) :
    CallsIn Fence.wide 4 Tryd.prog 83 #[va, vb, .func (.func f) #[] #[]] w fun e w' => ∃ u, e = .returned u ∧ ∃ zs, IsRelF w' w.heap.size u zs ∧ OpOf op xs ys zs ∧ Below w.heap.size w w' := by
  have SA := Lib.hid sa
  have SB := Lib.hid sb
  clear sa sb
  refine callsIn_of_wp_marks Tryd.func83 rfl trivial ?_ rfl
  simp only [Tryd.ntmps83, List.size_toArray, List.length_cons, List.length_nil, Nat.reduceAdd, Nat.reduceSub, Array.replicate_succ, Array.replicate_zero, List.push_toArray, List.append_toArray, List.nil_append, List.cons_append]
  gi_upto_region 2 with fail
  have B1 : Below w.heap.size w ((w.alloc (.cells #[.func (.func f) #[] #[]] 54)).alloc (.cells #[.slice none 0 0] 24)) := below_alloc' (below_new _ _)
  have F5 : Cel ((w.alloc (.cells #[.func (.func f) #[] #[]] 54)).alloc (.cells #[.slice none 0 0] 24)) w.heap.size 54 [.func (.func f) #[] #[]] := (Cel.new w 54 [.func (.func f) #[] #[]]).keep (below_new _ _)
  have F7 : Cel ((w.alloc (.cells #[.func (.func f) #[] #[]] 54)).alloc (.cells #[.slice none 0 0] 24)) (w.heap.size + 1) 24 [.slice none 0 0] := by
    have := Cel.new (w.alloc (.cells #[.func (.func f) #[] #[]] 54)) 24 [.slice none 0 0]
    rwa [World.size_alloc] at this
  have hs1 : ((w.alloc (.cells #[.func (.func f) #[] #[]] 54)).alloc (.cells #[.slice none 0 0] 24)).heap.size = w.heap.size + 2 := by simp
  obtain ⟨w1, hw1⟩ : ∃ z, (w.alloc (.cells #[.func (.func f) #[] #[]] 54)).alloc (.cells #[.slice none 0 0] 24) = z := ⟨_, rfl⟩
  rw [hw1] at B1 F5 F7 hs1
  rw [hw1]
  clear hw1
  obtain ⟨b5, h5⟩ : ∃ b5, w.heap.size = b5 := ⟨_, rfl⟩
  obtain ⟨b7, h7⟩ : ∃ b7, w.heap.size + 1 = b7 := ⟨_, rfl⟩
  rw [h7] at F7
  rw [h7]
  rw [h5] at F5
  have hT1 := hT.keep B1
  have ha1 := ha.keep B1
  have hb1 := hb.keep B1
  gi_wp2_with fail
  refine ⟨trivial, ?_⟩
  (with_reducible refine (callsIn_wide.2 (canonical_any va xs _ hT1 ha1 SA.out)).mono ?_)
  rintro e w2 ⟨ua, rfl, al, Ra, Ca, B2⟩
  gi_wp2_with fail
  refine ⟨trivial, ?_⟩
  (with_reducible refine (callsIn_wide.2 (canonical_any vb ys _ (hT1.keep B2) (hb1.keep B2) SB.out)).mono ?_)
  rintro e w3 ⟨ub, rfl, bl, Rb, Cb, B3⟩
  replace Ra := Ra.keep B3
  replace Rb := Rb.mono B2.size
  have B13 := below_trans B2 B3
  obtain ⟨pa, ca, rfl, hma⟩ := Ra.rel.shape
  obtain ⟨pb, cb, rfl, hmb⟩ := Rb.rel.shape
  have HCA := Lib.hid Ca
  have HCB := Lib.hid Cb
  have hal : al.length ≤ 10000 := (Ca.sml _ SA.out).len
  have hbl : bl.length ≤ 10000 := (Cb.sml _ SB.out).len
  clear Ca Cb ha1 hb1 ha hb B2 B3
  gi_wp2_with fail
  refine ⟨trivial, ?_⟩
  (with_reducible refine (callsIn_wide.2 (pairs_any _ _ _ _ _ _ _)).mono ?_)
  rintro e w4 ⟨rfl, hw4⟩
  have G1 : Cel w4 w3.heap.size 24 [.slice pa al.length ca] := by rw [hw4]; exact (Cel.new w3 24 [.slice pa al.length ca]).keep (below_new _ _)
  have G2 : Cel w4 (w3.heap.size + 1) 24 [.slice pb bl.length cb] := by
    have := Cel.new (w3.alloc (.cells #[.slice pa al.length ca] 24)) 24 [.slice pb bl.length cb]
    rw [World.size_alloc] at this
    rw [hw4]; exact this
  have B4 : Below w3.heap.size w3 w4 := by rw [hw4]; exact below_alloc' (below_new _ _)
  have hs4 : w4.heap.size = w3.heap.size + 2 := by rw [hw4]; simp
  clear hw4
  replace F5 := F5.keep (below_trans B13 B4)
  replace F7 := F7.keep (below_trans B13 B4)
  have hs13 := B13.size
  have hRR : ∀ B, Agree (fun k => k = b7 ∨ k = w3.heap.size ∨ k = w3.heap.size + 1 ∨ w4.heap.size ≤ k) w4 B → Agree (fun k => k < w1.heap.size) w3 B := fun B hB =>
    ⟨hB.os.trans B4.os, hB.tape.trans B4.tape, hB.output.trans B4.output, Nat.le_trans B4.size hB.size, fun k hk hx => (hB.block k (by omega) (by omega)).trans (B4.block k hk)⟩
  gi_wp2_with fail
  have hseq : SeqBox Fence.wide 3 Tryd.prog 143 #[.pointer (some ⟨w3.heap.size, 0, none⟩), .pointer (some ⟨w3.heap.size + 1, 0, none⟩)] encPr (fun p => p ∈ pairsL al bl) (fun k => k = w3.heap.size ∨ k = w3.heap.size + 1) (Agree (fun k => k = b7 ∨ w4.heap.size ≤ k)) (fun l => l = pairsL al bl) (pairsL al bl).length w4 :=
    fun l J W hW hJ hY hj => pairs_in l w3.heap.size (w3.heap.size + 1) b7 w4.heap.size al bl _ _ J hJ (fun pre x A hx hp hl => hY pre x A hx hp hl) W (by omega) (by omega) (by omega) (by omega) (by omega) (G1.keep hW) (G2.keep hW)
      (fun B hB => by have h := hRR B ((Agree.of_below hW).trans hB); exact ⟨Ra B h, Rb B h⟩) (by omega) (by omega) hj
  have i1 := Nat.le_of_eq hs1
  have i2 := Nat.le_of_eq hs1.symm
  have i3 := Nat.le_of_eq hs4
  have i4 := Nat.le_of_eq hs4.symm
  have i5 := Nat.le_of_eq h5
  have i6 := Nat.le_of_eq h5.symm
  have i7 := Nat.le_of_eq h7
  have i8 := Nat.le_of_eq h7.symm
  have hexb : ∀ k, (k < w1.heap.size ∨ k = w3.heap.size ∨ k = w3.heap.size + 1 ∨ k = w4.heap.size ∨ k = w4.heap.size + 1) → k < w4.heap.size + 2 := fun k hk => by omega
  have hb7 : b7 < w1.heap.size := by omega
  clear hs1 hs4 h5 h7
  refine range_box (α := RR × RR) rfl (by decide) (gf := 143) (lb := #[.pointer (some ⟨w3.heap.size, 0, none⟩), .pointer (some ⟨w3.heap.size + 1, 0, none⟩)]) rfl trivial (enters_of Tryd.func143 (by kernel_rfl) rfl) hseq (fun k hk => by omega) Agree.trans (fun W l o o' hl _ _ _ => Agree.putObj W (.inr hl) o') (Below.refl _ _) (fun _ => rfl)
    (CmbI op w1.heap.size w3.heap.size w4.heap.size b7 w4)
    (fun s A B hs hg => by
      obtain ⟨⟨v, out, h1, h2, h3⟩, h4⟩ := hs
      exact ⟨⟨v, out, h1.agree hg (by omega), h2.agree (hg.mono fun k hk => by omega) hexb, h3⟩, h4.trans (hg.mono fun k hk => by omega)⟩)
    ⟨⟨_, [], F7, Hold.nil _ _, Lib.hid rfl⟩, Agree.refl _ _⟩
    (fun x a' W => ∃ bx bz, w4.heap.size + 2 ≤ bx ∧ w4.heap.size + 2 ≤ bz ∧ Cel W bx 44 [x.1.av, x.1.wv] ∧ Cel W bz 44 [x.2.av, x.2.wv] ∧ a' = { tmps := #[va, vb, .func (.func f) #[] #[], undef, undef, .pointer (some ⟨b5, 0, none⟩), .slice none 0 0, .pointer (some ⟨b7, 0, none⟩), .pointer (some ⟨bx, 0, none⟩), .pointer (some ⟨bz, 0, none⟩), undef, va, .slice pa al.length ca, vb, .slice pb bl.length cb, .func (.func 143) #[] #[.pointer (some ⟨w3.heap.size, 0, none⟩), .pointer (some ⟨w3.heap.size + 1, 0, none⟩)], .agg #[x.1.av, x.1.wv], .agg #[x.2.av, x.2.wv], undef, undef, undef, undef, undef, undef, undef, undef, undef, undef, undef, undef, undef, undef, undef, undef, undef], defers := [] })
    (fun x a' A B hs hg => by obtain ⟨bx, bz, h1, h2, h3, h4, h5⟩ := hs; exact ⟨bx, bz, h1, h2, h3.agree hg (by omega), h4.agree hg (by omega), h5⟩) ?assign ?body ?done
  case assign =>
    rintro l pre x W K hx hsz ⟨⟨v, out, h1, h2, h3⟩, h4⟩ hK
    unfold encPr rowV
    have B9 : Below W.heap.size W ((W.alloc (.cells #[x.1.av, x.1.wv] 44)).alloc (.cells #[x.2.av, x.2.wv] 44)) := below_alloc' (below_new _ _)
    have X9 : Cel ((W.alloc (.cells #[x.1.av, x.1.wv] 44)).alloc (.cells #[x.2.av, x.2.wv] 44)) W.heap.size 44 [x.1.av, x.1.wv] := (Cel.new W 44 [x.1.av, x.1.wv]).keep (below_new _ _)
    have Y9 : Cel ((W.alloc (.cells #[x.1.av, x.1.wv] 44)).alloc (.cells #[x.2.av, x.2.wv] 44)) (W.heap.size + 1) 44 [x.2.av, x.2.wv] := by
      have := Cel.new (W.alloc (.cells #[x.1.av, x.1.wv] 44)) 44 [x.2.av, x.2.wv]
      rwa [World.size_alloc] at this
    gi_wp2
    exact hK _ _ (KeepsFrom.of_grownBy (row := none) (grown_of B9) (fun _ e => by cases e)) (.of_below B9) ⟨⟨v, out, h1.keep B9, h2.keep B9, h3⟩, h4.trans (.of_below B9)⟩ ⟨W.heap.size, W.heap.size + 1, hsz, by omega, X9, Y9, rfl⟩
  case body =>
    rintro l pre x a' W hl hx ⟨⟨v, out, h1, h2, h3⟩, h4⟩ ⟨bx, bz, hbx, hbz, X9, Y9, rfl⟩ hlt
    obtain ⟨p4, c4, rfl⟩ := h2.form
    have hWs : w4.heap.size + 2 ≤ W.heap.size := by have := X9.lt; omega
    have F5W := F5.agree h4 (by omega)
    have HRW := hRR W h4
    have POK := pair_ok (Ra W HRW) (Rb W HRW) hx
    have BW : Below w.heap.size w W := (below_trans (below_trans B1 (B13.mono (Nat.le_refl _))) (B4.mono (Nat.le_refl _))).trans (h4.below (by omega) (fun k hk => by omega))
    have hTW := hT.keep BW
    have q5 := F5W.at_ (j := 0) rfl
    have qx := X9.at_ (j := 1) rfl
    have qz := Y9.at_ (j := 1) rfl
    have hps := pairs_len _ al bl (Nat.le_refl _)
    gi_wp2_with fail
    rw [hf.enter, Oper.uponIn_enter]
    refine ⟨trivial, fun _ => by omega, ?_⟩
    (with_reducible refine (CallsIn.inRound l (callsIn_wide.2 (hf.call _ _ x.1.s x.2.s _ hTW POK.1.spans POK.2.spans))).mono ?_)
    rintro e W5 ⟨u5, rfl, ⟨h5, f5⟩, B5⟩
    obtain ⟨S, hS⟩ : ∃ S, Hid ((canon fun k => op (setOf x.1.s k) (setOf x.2.s k)) = S) := ⟨_, Lib.hid rfl⟩
    rw [hS.out] at h5
    obtain ⟨p5, c5, rfl, h5⟩ := h5
    have hSl : S.length ≤ 32 := by rw [← hS.out]; exact canon_le _
    have H15 := h1.keep B5
    have A45 : Agree (fun k => k = b7 ∨ k = w3.heap.size ∨ k = w3.heap.size + 1 ∨ w4.heap.size ≤ k) w4 W5 := h4.trans (.of_below B5)
    have q7 := H15.at_ (j := 0) rfl
    have qt := (X9.keep B5).at_ (j := 0) rfl
    by_cases hS0 : S.length = 0
    · have hSz : ¬ (0 : Int) < (S.length : Int) := by omega
      have CN : Hid (rows out = combL op (pre ++ [x])) := Lib.hid (by rw [combL_append, h3.out]; unfold comb1; rw [hS.out, if_pos (List.eq_nil_of_length_eq_zero hS0), List.append_nil])
      gi_wp2
      exact ⟨KeepsFrom.of_grownBy (row := none) (grown_of B5) (fun _ e => by cases e), .of_below B5, ⟨_, out, H15, h2.keep B5, CN⟩, A45⟩
    · have hSz : (0 : Int) < (S.length : Int) := by omega
      have CN : Hid (rows (out ++ [⟨x.1.pa, x.1.ca, x.1.t, p5, c5, S⟩]) = combL op (pre ++ [x])) := Lib.hid (by
        rw [combL_append, rows_append, h3.out]; unfold comb1; rw [hS.out, if_neg (fun e => hS0 (by rw [e]; rfl))]; rfl)
      have hq : Off RowOk (W5.alloc (.cells #[x.1.av, .slice p5 S.length c5] 44)) (Ex (.slice p4 out.length c4) (fun k => k < w1.heap.size ∨ k = w3.heap.size ∨ k = w3.heap.size + 1 ∨ k = w4.heap.size ∨ k = w4.heap.size + 1)) ⟨x.1.pa, x.1.ca, x.1.t, p5, c5, S⟩ := fun B hB => by
        have A46 := A45.alloc (.cells #[x.1.av, .slice p5 S.length c5] 44)
        have h3B : Agree (fun k => k < w1.heap.size) w3 B := ⟨hB.os.trans (A46.os.trans B4.os), hB.tape.trans (A46.tape.trans B4.tape), hB.output.trans (A46.output.trans B4.output), Nat.le_trans B4.size (Nat.le_trans A46.size hB.size), fun k hk hn =>
          (hB.block k (by have := A46.size; omega) (fun e => by
            rcases e with e | e
            · have := (h2.1.lt k e).1; omega
            · omega)).trans ((A46.block k (by omega) (by omega)).trans (B4.block k hk))⟩
        refine ⟨(pair_ok (Ra B h3B) (Rb B h3B) hx).1.vals, ?_⟩
        refine IsSpans.agree (w := W5.alloc (.cells #[x.1.av, .slice p5 S.length c5] 44)) (IsSpans.keep ⟨p5, c5, rfl, h5⟩ (below_new _ _)) hB fun b hb e => ?_
        have := f5 b hb
        rcases e with e | e
        · have := (h2.1.lt b e).2; omega
        · omega
      have hm : IsRows 2 encR (W5.alloc (.cells #[x.1.av, .slice p5 S.length c5] 44)) (.slice (some ⟨W5.heap.size, 0, none⟩) 1 1) [⟨x.1.pa, x.1.ca, x.1.t, p5, c5, S⟩] := IsRows.lit W5 [_] encsR (by simp)
      have B56 : Below W.heap.size W (W5.alloc (.cells #[x.1.av, .slice p5 S.length c5] 44)) := below_trans B5 (below_new _ _)
      have H16 := H15.keep (below_new W5 (.cells #[x.1.av, .slice p5 S.length c5] 44))
      have hol : out.length ≤ 1000000 := by
        have e1 : out.length = (combL op pre).length := by rw [← h3.out, rows_length]
        have e2 : (combL op pre).length ≤ pre.length := comb_len pre
        omega
      gi_wp2_with (gi_at_builtin; refine wpListIn_hold fitsR24 encsR rfl _ _ rfl rfl rfl h2 B56 hm (fun u hu => by rw [List.mem_singleton.1 hu]; exact hq) hWs hol (by simp) ?_; intro p9 c9 W7 H9 B9 hG9; rw [show (out ++ [(⟨x.1.pa, x.1.ca, x.1.t, p5, c5, S⟩ : RR)]).length = out.length + 1 by simp] at H9; have H17 := Cel.agree (X := Ex (.slice p4 out.length c4) noB) H16 (.of_grown hG9 fun k hk => .inl hk) (fun e => by rcases e with e | e; (have := (h2.1.lt _ e).1; omega); exact e); have q17 := H17.at_ (j := 0) rfl; have f17 := H17.free 0)
      have AG : Agree (fun k => k = b7 ∨ Value.ownBlock (.slice p4 out.length c4) = some k) W (W7.setCell ⟨b7, 0, none⟩ (.slice p9 (out.length + 1) c9)) :=
        ((Agree.of_below B56).trans (.of_grown hG9 fun k hk => .inr hk)).setCell (.inl (.inl rfl)) _
      refine ⟨keeps_of AG fun k hk o ho => ?_, AG.mono fun k hk => ?_, ⟨_, _, H17.set 0 _, ?_, CN⟩, ?_⟩
      · rcases hk with rfl | hk
        · rw [h1] at ho; cases ho; rfl
        · exact h2.1.cells hk o ho
      · rcases hk with hk | hk
        · exact .inl hk
        · exact .inr (by have := (h2.1.lt k hk).1; omega)
      · exact H9.agree ((Agree.refl _ _).setCell (.inl (.inl hb7)) _) hexb
      · exact h4.trans (AG.mono fun k hk => by
          rcases hk with hk | hk
          · exact .inl hk
          · have := (h2.1.lt k hk).1; omega)
  case done =>
    rintro zs W hS ⟨⟨v, out, h1, h2, h3⟩, h4⟩ hK
    obtain ⟨p4, c4, rfl⟩ := h2.form
    have q7 := h1.at_ (j := 0) rfl
    have hps := pairs_len _ al bl (Nat.le_refl _)
    have hol : out.length ≤ 1000000 := by
      have e1 : out.length = (combL op zs).length := by rw [← h3.out, rows_length]
      have e2 : (combL op zs).length ≤ zs.length := comb_len zs
      rw [hS] at e1 e2
      omega
    rw [hS] at h3
    have RES := Lib.hid (opOf_comb h0 HCA.out HCB.out h3.out)
    clear hS
    gi_wp2
    refine ⟨by simp, .inl ⟨_, _, rfl, run_takeDeferred hK, ?_⟩⟩
    refine ⟨_, results_tmp rfl _ _ _, _, rfl, out, ?_, RES.out, ?_⟩
    · exact ((h2.agree (Agree.putObj (l := w4.heap.size) W (.inr (.inr (.inr (.inl rfl)))) _) hexb).less fun k hk => .inl (by omega)).relF (by omega) (by omega)
    · have BW : Below w.heap.size w W := (below_trans (below_trans B1 B13) B4).trans (h4.below (by omega) (fun k hk => by omega))
      exact BW.trans ((Agree.putObj (X := fun k => k = w4.heap.size) (l := w4.heap.size) W rfl _).below (by have := BW.size; omega) fun k hk => by omega)
theorem combine_any (f : FuncId) (op : Bool → Bool → Bool) (h0 : op false false = false) (hf : Moms f op) (va vb : Value) (xs ys : List RR) (w : World) (hT : Tab w) (ha : IsRel w va xs) (hb : IsRel w vb ys) (sa : Sml 10000 xs) (sb : Sml 10000 ys) :
    Calls Tryd.prog 83 #[va, vb, .func (.func f) #[] #[]] w fun e w' => ∃ u, e = .returned u ∧ ∃ zs, IsRelF w' w.heap.size u zs ∧ OpOf op xs ys zs ∧ Below w.heap.size w w' := callsIn_wide.1 (combine_in f op h0 hf va vb xs ys w hT ha hb sa sb)
end Go.Proofs.YtdibijhaiaiifaaDoor
