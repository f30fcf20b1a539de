/- Parts Cb, Box, Cmb: words, walks and laws that the claims of this seat share. -/
import Derived.Test.YtdibijhaiaiifaaDoorJ8
import Derived.Sort.LoopGhostIn
/- The walk of canonical. -/
namespace Go.Proofs.YtdibijhaiaiifaaDoor
open Go.RowKit
theorem getElem_of_lt {α : Type} {l : List α} {i : Nat} (h : i < l.length) : ∃ x, l[i]? = some x := ⟨_, List.getElem?_eq_getElem h⟩
set_option maxHeartbeats 4000000 in
set_option maxRecDepth 1000000 in
theorem canonical_any (v : Value) (xs : List RR) (w : World) (hT : Tab w) (h : IsRel w v xs) (hs : Sml 10000 xs) :
    Calls Tryd.prog 87 #[v] w fun e w' => ∃ u, e = .returned u ∧ ∃ ys, IsRelF w' w.heap.size u ys ∧ CanOf xs ys ∧ Below w.heap.size w w' := by
  have HS := Lib.hid hs
  have hl : xs.length ≤ 1000000 := by have := hs.len; omega
  have hok := h.2
  clear hs
  go_enter Tryd.func87, Tryd.ntmps87
  go_wp2_with fail
  refine (CloneR_any v xs _ h.1 hl).mono ?_
  rintro e w1 ⟨u, rfl, hO, hB⟩
  go_wp2_with fail
  refine (sort_any w w1 u xs hO hB hok hl).mono ?_
  rintro e w2 ⟨rfl, L, P, T, R, B2⟩
  have HP := Lib.hid P
  have HT := Lib.hid T
  have HE : Hid (∀ x ∈ L, x.t.length ≤ 64 ∧ x.s.length ≤ 64) := Lib.hid fun x hx => HS.out.each x (P.mem_iff.1 hx)
  have hLn : L.length ≤ 10000 := by have := P.length_eq; have := HS.out.len; omega
  have hT2 := hT.keep B2
  obtain ⟨pa, pc, rfl, -⟩ := R.shape
  clear hO hB hok h P T hl hT
  go_wp2
  go_loopg [4, 5] L.length (fun g v4 vi wr => ∃ (i : Nat) (out : List RR), vi = .int .i64 i ∧ i ≤ L.length ∧ L.length - i ≤ g ∧ Hid (CInv L out i) ∧ Hold 2 44 encR RowOk (fun k => k < w.heap.size) wr w2.heap.size v4 out ∧ Below w2.heap.size w2 wr)
  case atStart => exact ⟨0, [], rfl, by omega, by omega, Lib.hid (CInv.start L), Hold.nil _ _, Below.refl _ _⟩
  case round =>
    obtain ⟨i, out, rfl, hi, hg, C, H4, Br⟩ := hrel
    by_cases hlt : i < L.length
    · have hltz : (i : Int) < (L.length : Int) := by omega
      obtain ⟨r, hr⟩ := getElem_of_lt hlt
      obtain ⟨b, off, rfl, -⟩ := R.at_ hr
      have HR := Lib.hid hr
      clear hr
      obtain ⟨w3, hw3⟩ : ∃ x, x = wr := ⟨_, rfl⟩
      rw [← hw3] at H4 Br
      obtain ⟨p4, c4, rfl⟩ := H4.form
      go_wp2
      go_loopg [6, 7] (L.length + 1) (fun g v6 vk wq => ∃ (k : Nat) (W : List Sp), vk = .int .i64 k ∧ k ≤ L.length ∧ L.length + 1 - k ≤ g ∧ Hid (WInv L r.t i k W) ∧ Owns 2 86 encSp wq w3.heap.size v6 W ∧ Below w3.heap.size w3 wq)
      case atStart => exact ⟨i, [], rfl, by omega, by omega, Lib.hid (WInv.start L r.t i), Owns.nil _ _, by rw [hw3]; exact Below.refl _ _⟩
      case round =>
        clear hw3
        obtain ⟨k, W, rfl, hk, hg2, V, H6, Bq⟩ := hrel
        obtain ⟨q, HQ⟩ : ∃ q : Bool, Hid (q = true ↔ ∃ y, L[k]? = some y ∧ cmpT r.t y.t = 0) := ⟨decide (∃ y, L[k]? = some y ∧ cmpT r.t y.t = 0), Lib.hid (by simp)⟩
        have Rq := R.keep (below_trans Br (Bq.mono (Nat.le_refl _)))
        go_upto_region 8 with fail
        go_cut [32] from 17 to 32 (fun v32 wx => v32 = .bool q ∧ Grew wr wx)
        case first =>
          obtain ⟨b1, o1, e1, c0, c1, rx⟩ := Rq.at_ HR.out
          cases e1
          replace c0 := After.cell c0
          replace c1 := After.cell c1
          by_cases hk2 : k < L.length
          · have hkz : (k : Int) < (L.length : Int) := by omega
            obtain ⟨y, hy⟩ := getElem_of_lt hk2
            obtain ⟨b2, o2, e2, d0, d1, ry⟩ := Rq.at_ hy
            cases e2
            replace d0 := After.cell d0
            replace d1 := After.cell d1
            obtain ⟨z, hz⟩ : ∃ z, cmpT r.t y.t = z := ⟨_, rfl⟩
            have HQ2 : Hid (q = (z == 0)) := Lib.hid (by
              rw [Bool.eq_iff_iff, HQ.out, hy, beq_iff_eq, ← hz]
              exact ⟨fun ⟨y', e, h⟩ => by cases e; exact h, fun h => ⟨y, rfl, h⟩⟩)
            clear hy
            refine wp_region_after (by kernel_rfl) (by kernel_rfl) ?_
            repeat (quiet_step ((go_at_call 73; exact byArgs_after rx ry _)))
            refine wpQuiet_nil ?_
            intro w5 hg5
            clear c0 c1 d0 d1
            rw [← HQ2.out]
            go_wp2
            go_meet
            case rel => exact ⟨rfl, hg5⟩
          · have hkz : ¬ (k : Int) < (L.length : Int) := by omega
            have hqf : q = false := by
              cases q with
              | false => rfl
              | true => obtain ⟨y, hy, _⟩ := HQ.out.1 rfl; have := (List.getElem?_eq_some_iff.1 hy).1; omega
            subst hqf
            clear c0 c1 rx
            go_region
            go_wp2
            go_meet
            case rel => exact ⟨rfl, (Grew.refl _).drew⟩
        case rest =>
          obtain ⟨rfl, gq⟩ := hcut
          replace Rq := Rq.keep gq.below
          replace H6 := H6.keep gq.below
          replace Bq := Bq.trans (gq.below.mono Bq.size)
          clear gq
          obtain ⟨p6, c6, rfl⟩ := H6.form
          cases q
          · have HEND : Hid (∀ x, L[k]? = some x → ¬ cmpT r.t x.t = 0) := Lib.hid fun x hx he => by have := HQ.out.2 ⟨x, hx, he⟩; cases this
            have hik : i < k := V.out.more HR.out (.inr HEND.out)
            have hW : W.length ≤ 1000000 := by have := V.out.len HE.out; omega
            have h6 := IsSpans.of_rows (H6.is encsS (by omega))
            have hTq := (hT2.keep Br).keep Bq
            go_wp2_with fail
            refine (Of_any _ W _ hTq h6).mono ?_
            rintro e w5 ⟨u5, rfl, ⟨h5, f5⟩, B5⟩
            obtain ⟨S, hS⟩ : ∃ S, Hid (canon (setOf W) = S) := ⟨_, Lib.hid rfl⟩
            rw [hS.out] at h5
            obtain ⟨p5, c5, rfl, h5⟩ := h5
            have hSl : S.length ≤ 32 := by rw [← hS.out]; exact canon_le _
            have R5 := Rq.keep B5
            have F5 := f5
            have Z5 := B5.size
            replace B5 := Bq.trans (B5.mono Bq.size)
            by_cases hS0 : S.length = 0
            · have CN := Lib.hid (C.out.skip V.out (by rw [hS.out]; exact List.eq_nil_of_length_eq_zero hS0))
              have hSz : ¬ (0 : Int) < (S.length : Int) := by omega
              go_wp2
              go_roundg (L.length - k)
              case measure => omega
              case rel => exact ⟨k, out, rfl, hk, Nat.le_refl _, CN, H4.keep B5, Br.trans (B5.mono Br.size)⟩
            · have hSz : (0 : Int) < (S.length : Int) := by omega
              obtain ⟨b1, o1, e1, c0, -, rx⟩ := R5.at_ HR.out
              cases e1
              have hrl := (HE.out r (List.mem_of_getElem? HR.out)).1
              go_wp2_with fail
              refine (CloneV_any _ r.t _ rx.1 (by omega)).mono ?_
              rintro e w6 ⟨u7, rfl, h7, B6⟩
              obtain ⟨p7, c7, rfl⟩ := h7.form
              have hq : RowOk w6 ⟨p7, c7, r.t, p5, c5, S⟩ := ⟨h7.is encsV (by omega), IsSpans.keep ⟨p5, c5, rfl, h5⟩ B6⟩
              have hm : IsRows 2 encR (w6.alloc (.cells #[.slice p7 r.t.length c7, .slice p5 S.length c5] 44)) (.slice (some ⟨w6.heap.size, 0, none⟩) 1 1) [⟨p7, c7, r.t, p5, c5, S⟩] := IsRows.lit w6 [_] encsR (by simp)
              have B7 := B5.trans (B6.mono B5.size)
              have B8 := B7.alloc B7.size (.cells #[.slice p7 r.t.length c7, .slice p5 S.length c5] 44)
              have hmo : ∀ u ∈ [(⟨p7, c7, r.t, p5, c5, S⟩ : RR)], Off RowOk (w6.alloc (.cells #[.slice p7 r.t.length c7, .slice p5 S.length c5] 44)) (Ex (.slice p4 out.length c4) (fun k => k < w.heap.size)) u := by
                intro u hu
                simp at hu
                subst hu
                have hq2 := hq.keep (below_new w6 (.cells #[.slice p7 r.t.length c7, .slice p5 S.length c5] 44))
                refine row_fresh (base := w3.heap.size) hq2 (Fresh.mono h7.fresh (Nat.le_trans Bq.size Z5)) (F5.mono Bq.size) fun k hk => ?_
                rcases hk with hk | hk
                · exact (H4.1.lt k hk).2
                · exact Nat.lt_of_lt_of_le hk (Nat.le_trans B2.size Br.size)
              have CN := Lib.hid (CInv.put (q := ⟨p7, c7, r.t, p5, c5, S⟩) HT.out C.out HR.out V.out hik HEND.out (by rw [hS.out]; intro e; rw [e] at hS0; exact hS0 rfl) rfl hS.out.symm)
              have hol : out.length ≤ 1000000 := by have := C.out.len; omega
              go_wp2_with (at_builtin; refine wpList_hold fitsR24 encsR rfl _ _ rfl rfl rfl H4 B8 hm hmo Br.size hol (by simp) ?_; intro p9 c9 w9 H9 B9 hG9)
              go_roundg (L.length - k)
              case measure => omega
              case rel => exact ⟨k, _, rfl, hk, Nat.le_refl _, CN, by rw [List.length_append] at H9; exact H9, Br.trans B9⟩
          · obtain ⟨y, hy, hcy⟩ := HQ.out.1 rfl
            have hk2 : k < L.length := (List.getElem?_eq_some_iff.1 hy).1
            have hkz : (k : Int) < (L.length : Int) := by omega
            obtain ⟨b1, o1, e1, -, c1, ry⟩ := Rq.at_ hy
            cases e1
            have VN := Lib.hid (V.out.step hy hcy)
            have hyl := (HE.out y (List.mem_of_getElem? hy)).2
            have hWl : W.length ≤ 1000000 := by have := V.out.len HE.out; omega
            have hys := ry.2.rows
            clear hy hcy
            go_wp2_with (at_builtin; refine wpList_cat fitsS encsS rfl _ _ rfl rfl rfl H6 (Below.refl _ _) hys Bq.size hWl (by omega) ?_; intro p1 c1 w7 hO hB hG)
            go_roundg (L.length + 1 - (k + 1))
            case measure => omega
            case rel => exact ⟨k + 1, _, by go_num, hk2, Nat.le_refl _, VN, by rw [List.length_append] at hO; exact hO, Bq.trans hB⟩
    · have hltz : ¬ (i : Int) < (L.length : Int) := by omega
      have RES := Lib.hid (C.out.done (by omega) HP.out)
      have hol : out.length ≤ 1000000 := by have := C.out.len; omega
      go_wp2
      go_ret
      exact ⟨_, rfl, out, H4.relF B2.size (by omega), RES.out, B2.trans (Br.mono B2.size)⟩
end Go.Proofs.YtdibijhaiaiifaaDoor
/- A range over a function that changes boxes of its own: the caller's rounds all go on. -/
namespace Go.Proofs.YtdibijhaiaiifaaDoor
open Go.RowKit Go.Shelf
/-- The iterator's promise: what has come; X: the blocks that it changes; Ok: what it gives. -/
def SeqBox {α : Type} (F : Fence) (n : Nat) (P : Program) (g : Nat) (lb : Array Value) (encs : α → Array Value) (Ok : α → Prop) (X : Nat → Prop) (Kp : World → World → Prop) (S : List α → Prop) (N : Nat) (w : World) : Prop :=
  ∀ (l : Nat) (J : List α → World → Prop) (W : World), Below w.heap.size w W → (∀ s A B, J s A → Agree X A B → J s B) →
    (∀ pre x A, Ok x → J pre A → pre.length < N → YieldAt F (n - 1) P l (encs x) A fun e B => e = .returned (.bool true) ∧ J (pre ++ [x]) B ∧ Kp A B) →
    J [] W → CallsIn F n P g (#[.func (.yield l) #[] #[]] ++ lb) W fun e B => (∃ v, e = .returned v) ∧ ∃ xs, S xs ∧ J xs B
/-- The two blocks of book-keeping: the record, and the block of deferred calls before it. -/
structure Books (b : Nat) (r : Loop) (W : World) : Prop where
  lp : W.heap[b + 1]? = some (.loop r)
  df : W.heap[b]? = some (.deferred (some []))
theorem Books.agree {b : Nat} {r : Loop} {A B : World} {X : Nat → Prop} (h : Books b r A) (hg : Agree X A B) (hx : ∀ k, X k → k < b) : Books b r B :=
  ⟨(hg.block _ (Array.getElem?_eq_some_iff.1 h.lp).1 fun e => by have := hx _ e; omega).trans h.lp, (hg.block _ (Array.getElem?_eq_some_iff.1 h.df).1 fun e => by have := hx _ e; omega).trans h.df⟩
theorem Books.kept {b : Nat} {r : Loop} {A B : World} (h : Books b r A) (hk : KeepsFrom b A B) : Books b r B :=
  ⟨hk.same _ _ (by omega) h.lp rfl, hk.same _ _ (Nat.le_refl _) h.df rfl⟩
theorem Books.turn {b : Nat} {r : Loop} {A : World} (h : Books b r A) (q : Loop) : Books b q (A.putObj (b + 1) (.loop q)) :=
  ⟨World.putObj_heap_same (Array.getElem?_eq_some_iff.1 h.lp).1, (World.putObj_heap_other (by omega)).trans h.df⟩
theorem Books.start (w : World) (r : Loop) : Books w.heap.size r ((w.alloc (.deferred (some []))).alloc (.loop r)) := by
  constructor
  · have := World.alloc_heap_new (w.alloc (.deferred (some []))) (.loop r)
    rwa [World.size_alloc] at this
  · exact (Below.heap_alloc _ _ _ (by simp)).trans (World.alloc_heap_new w _)
theorem Agree.putObj {X : Nat → Prop} (A : World) {l : Nat} (hx : X l) (o : Obj) : Agree X A (A.putObj l o) := by
  have h := grownBy_putObj' A l o
  exact ⟨h.os, h.tape, h.output, h.size, fun k hk hn => h.block k hk fun e => hn (by injection e with e; rw [e]; exact hx)⟩
theorem range_box {α : Type} {F : Fence} {n : Nat} {P : Program} {g : Operand} {ps : Array Tmp} {assign body : Code} {Q : Exit → Act → World → Prop} {a : Act} {w : World}
    (hro : F.round = none) (h1 : 1 ≤ n) {gf : Nat} {lb : Array Value} (hg : a.eval g = .func (.func gf) #[] lb) (hFg : F.fn gf) (eg : ∀ args w, (callFunc gf args).run P w = .ok (.enter gf args) w)
    {encs : α → Array Value} {Ok : α → Prop} {X : Nat → Prop} {Kp : World → World → Prop} {S : List α → Prop} {N : Nat} {w0 : World} (hseq : SeqBox F (n - 1) P gf lb encs Ok X Kp S N w0)
    (hX : ∀ k, X k → k < w.heap.size)
    (hKt : ∀ {A B C : World}, Kp A B → Kp B C → Kp A C) (hKb : ∀ (W : World) (l : Nat) (o o' : Obj), w.heap.size ≤ l → W.heap[l]? = some o → o.isCells = false → o.isWalk = false → Kp W (W.putObj l o'))
    (hb0 : Below w0.heap.size w0 w) (hps : ∀ x, (encs x).size = ps.size)
    (I : List α → World → Prop) (hI : ∀ s A B, I s A → Agree (fun k => X k ∨ k = w.heap.size ∨ k = w.heap.size + 1) A B → I s B) (h0 : I [] w) (Ax : α → Act → World → Prop) (hAx : ∀ x a' A B, Ax x a' A → Agree (fun k => k = w.heap.size ∨ k = w.heap.size + 1) A B → Ax x a' B)
    (hassign : ∀ (l : Nat) (pre : List α) (x : α) (W : World) (K : Act → World → Prop), Ok x → w.heap.size + 2 ≤ W.heap.size → I pre W → (∀ a' W', KeepsFrom w.heap.size W W' → Kp W W' → I pre W' → Ax x a' W' → K a' W') → assign.wpIn (F.inRound l) (n - 1 - 1) P (Exit.then K (fun _ _ _ => False)) { tmps := (ps.zip (encs x)).foldl (fun t (p, v) => t.setIfInBounds p v) a.tmps, defers := [] } W)
    (hbody : ∀ (l : Nat) (pre : List α) (x : α) (a' : Act) (W : World), w.heap.size ≤ l → Ok x → I pre W → Ax x a' W → pre.length < N → body.wpIn (F.inRound l) (n - 1 - 1) P (fun e _ B => e = .normal ∧ KeepsFrom w.heap.size W B ∧ Kp W B ∧ I (pre ++ [x]) B) a' W)
    (hdone : ∀ (xs : List α) (W : World), S xs → I xs W → W.heap[w.heap.size]? = some (.deferred (some [])) → Q .normal { a with defers := { target := .collected w.heap.size, args := #[] } :: a.defers } W) :
    (Code.rangeFunc g ps assign body).wpIn F n P Q a w := by
  refine wpIn_rangeFunc fun fn hfn => ?_
  rw [hro]
  obtain ⟨r, hr⟩ : ∃ r : Loop, r = { state := .ready, pending := none, fn, tmps := a.tmps, params := ps, assign, body, defers := w.heap.size } := ⟨_, rfl⟩
  have hB := Books.start w r
  have hW := ((Below.refl w.heap.size w).alloc (Nat.le_refl _) (.deferred (some []))).alloc (by simp) (.loop r)
  have hIW : I [] ((w.alloc (.deferred (some []))).alloc (.loop r)) := hI _ _ _ (hI _ _ _ h0 (.of_below (below_new _ _))) (.of_below (below_new _ _))
  generalize hX2 : (w.alloc (.deferred (some []))).alloc (.loop r) = X2 at hB hW hIW
  refine ⟨w.heap.size + 1, [{ target := .collected w.heap.size, args := #[] }], X2, { target := .fn (.func gf) lb, args := #[.func (.yield (w.heap.size + 1)) #[] #[]] }, X2, gf, #[.func (.yield (w.heap.size + 1)) #[] #[]] ++ lb, X2, ?_, ?_, ?_, ?_, fun _ => h1, ?_⟩
  · rw [← hX2, hr]; exact run_enterLoop_outer _ _ _ _ _
  · simp only [resolve, hg]; simp [go_sem]
  · intro f' hf'; simp [Target.leads] at hf'; subst hf'; exact hFg
  · simp [invoke, go_sem, eg]
  refine (hseq (w.heap.size + 1) (fun pre W => I pre W ∧ Books w.heap.size r W) X2 (hb0.trans (hW.mono hb0.size)) (fun s A B h hgr => ⟨hI s A B h.1 (hgr.mono fun _ h => .inl h), h.2.agree hgr hX⟩) (fun pre x A hok h hN => ?_) ⟨hIW, hB⟩).mono ?_
  · obtain ⟨hi, hk⟩ := h
    have hy := run_yield (P := P) (args := encs x) hk.lp (by rw [hr]; exact hps x)
    rw [hr] at hy
    refine ⟨fn, _, assign, body, hy, roundIn_of_wpIn hfn (hassign _ pre x A _ hok (by have := block_lt hk.lp; omega) hi ?_)⟩
    intro a' A2 hka hpa hia hax
    have hk2 := hk.kept hka
    refine ⟨_, run_beginRound hk2.lp (by rw [hr]), ?_⟩
    have ht := hk2.turn { r with state := .busy }
    have hi2 := hI _ _ _ hia (Agree.putObj (l := w.heap.size + 1) A2 (.inr (.inr rfl)) (.loop { r with state := .busy }))
    have hx2 := hAx x a' _ _ hax (Agree.putObj (l := w.heap.size + 1) A2 (.inr rfl) (.loop { r with state := .busy }))
    have hp1 : Kp A (A2.putObj (w.heap.size + 1) (.loop { r with state := .busy })) := hKt hpa (hKb _ _ _ _ (by omega) hk2.lp rfl rfl)
    refine wpIn_mono (hbody (w.heap.size + 1) pre x a' _ (by omega) hok hi2 hx2 hN) ?_
    rintro e a3 B ⟨rfl, hkf, hkp, hi3⟩
    have hkB := ht.kept hkf
    have he := run_endRound (P := P) none hkB.lp
    refine ⟨_, _, he, rfl, ⟨hI _ _ _ hi3 (Agree.putObj (l := w.heap.size + 1) B (.inr (.inr rfl)) _), ?_⟩, hKt hp1 (hKt hkp (hKb _ _ _ _ (by omega) hkB.lp rfl rfl))⟩
    have := hkB.turn r
    rw [hr] at this ⊢
    exact this
  · rintro e B ⟨⟨v, rfl⟩, xs, hs, hi, hk⟩
    subst hr
    exact ⟨none, _, run_endLoop (P := P) hk.lp (by simp), hdone xs _ hs (hI _ _ _ hi (Agree.putObj (l := w.heap.size + 1) B (.inr (.inr rfl)) _)) ((World.putObj_heap_other (by omega)).trans hk.df)⟩
theorem wpListIn_hold {α : Type} {ok : World → α → Prop} {k bytes : Nat} {t e : TypeId} {z : Value} {enc : α → List Value} {wr w : World} {base : Nat} {v x : Value} {l m : List α} {ex : Nat → Prop} {F : Fence} {nF : Nat} {ops : Array Oper} {rest : List Oper} {o : Oper} {a : Act} {Q : Exit → Act → World → Prop} (hF : Fits t e k bytes z) (hE : Encs k enc) (hgd : o.guard = none) (s y : Operand) (ho : o.op = .call { callee := .builtin .append, args := #[s, y], argTypes := #[t, t] })
    (hs : a.eval s = v) (hy : a.eval y = x) (hO : Hold k e enc ok ex wr base v l) (hb : Below wr.heap.size wr w) (hm : IsRows k enc w x m) (hmo : ∀ u ∈ m, Off ok w (Ex v ex) u) (hbase : base ≤ wr.heap.size) (hL : l.length ≤ 1000000) (hM : m.length ≤ 1000000)
    (h : ∀ p c w', Hold k e enc ok ex w' base (.slice p (l ++ m).length c) (l ++ m) → Below base wr w' → w.grownBy w' v.ownBlock → wpListIn F nF Tryd.prog ops Q rest (a.put o.dst (.slice p (l ++ m).length c)) w') : wpListIn F nF Tryd.prog ops Q (o :: rest) a w := by
  refine wpListIn_plain hgd fun K hK => ?_
  obtain ⟨p, c, w', hr, h2, h3, h4⟩ := run_hold o.type hF hE hO hb hm hmo hbase hL hM
  unfold Oper.wpIn
  refine ⟨by simp [Oper.about, ho, resolve, Target.leads, Sem.run_pure], ?_⟩
  rw [Oper.semAt_plain F _ _ (by rw [ho]; intro c hc'; cases hc')]
  simp only [execOp, ho, resolve, invoke, builtin, Sem.run_bind, Sem.run_pure, Result.andThen_ok, List.map_toArray, List.map_cons, List.map_nil, hs, hy, hr]
  exact hK _ _ (h p c w' h2 h3 h4)
/-! ### the pairs of two relations -/
def argsRow (y : RR) : RR := ⟨y.pa, y.ca, y.t, none, 0, []⟩
/-- What pairs yields. -/
def pairsL : List RR → List RR → List (RR × RR)
  | [], [] => []
  | x :: a, [] => (x, noRow) :: pairsL a []
  | [], y :: b => (argsRow y, y) :: pairsL [] b
  | x :: a, y :: b => if cmpT x.t y.t < 0 then (x, noRow) :: pairsL a (y :: b) else if cmpT x.t y.t = 0 then (x, y) :: pairsL a b else (argsRow y, y) :: pairsL (x :: a) b
termination_by a b => a.length + b.length
theorem pairs_nil : pairsL [] [] = [] := by rw [pairsL]
theorem pairs_left (x : RR) (a : List RR) : pairsL (x :: a) [] = (x, noRow) :: pairsL a [] := by rw [pairsL]
theorem pairs_right (y : RR) (b : List RR) : pairsL [] (y :: b) = (argsRow y, y) :: pairsL [] b := by rw [pairsL]
theorem pairs_lt {x y : RR} {a b : List RR} (h : cmpT x.t y.t < 0) : pairsL (x :: a) (y :: b) = (x, noRow) :: pairsL a (y :: b) := by rw [pairsL, if_pos h]
theorem pairs_eq {x y : RR} {a b : List RR} (h : cmpT x.t y.t = 0) : pairsL (x :: a) (y :: b) = (x, y) :: pairsL a b := by rw [pairsL, if_neg (by omega), if_pos h]
theorem pairs_gt {x y : RR} {a b : List RR} (h : 0 < cmpT x.t y.t) : pairsL (x :: a) (y :: b) = (argsRow y, y) :: pairsL (x :: a) b := by rw [pairsL, if_neg (by omega), if_neg (by omega)]
end Go.Proofs.YtdibijhaiaiifaaDoor
/- The plain laws of combine: what it makes of the pairs. -/
namespace Go.Proofs.YtdibijhaiaiifaaDoor
/-- What combine makes of one pair. -/
def comb1 (op : Bool → Bool → Bool) (p : RR × RR) : List Rw := if canon (fun k => op (setOf p.1.s k) (setOf p.2.s k)) = [] then [] else [(p.1.t, canon fun k => op (setOf p.1.s k) (setOf p.2.s k))]
def combL (op : Bool → Bool → Bool) (l : List (RR × RR)) : List Rw := l.flatMap (comb1 op)
theorem combL_append (op : Bool → Bool → Bool) (a : List (RR × RR)) (p : RR × RR) : combL op (a ++ [p]) = combL op a ++ comb1 op p := by simp [combL]
section
variable {op : Bool → Bool → Bool}
theorem mom_comb1 (p : RR × RR) (t : Tp) {k : Nat} (hk : k < 64) : mom (comb1 op p) t k = (decide (p.1.t = t) && op (setOf p.1.s k) (setOf p.2.s k)) := by
  unfold comb1
  split
  · rename_i h
    rw [mom_nil, canon_none (S := fun k => op (setOf p.1.s k) (setOf p.2.s k)) h hk, Bool.and_false]
  · rw [mom_cons, mom_nil, Bool.or_false, setOf_canon _ _ hk]
theorem setOf_nil (k : Nat) : setOf [] k = false := rfl
theorem mom_less {t : Tp} {r : List RR} (h : ∀ y ∈ r, cmpT t y.t < 0) (k : Nat) : mom (rows r) t k = false := mom_none (fun y hy => by obtain ⟨x, hx, rfl⟩ := mem_rows.1 hy; exact h x hx) k
theorem up_head {x : RR} {a : List RR} (h : Up (rows (x :: a))) : ∀ y ∈ a, cmpT x.t y.t < 0 := fun y hy => h.1 y.rw (mem_rows.2 ⟨y, hy, rfl⟩)
theorem up_all {x y : RR} {b : List RR} (h : cmpT x.t y.t < 0) (hb : Up (rows (y :: b))) : ∀ z ∈ y :: b, cmpT x.t z.t < 0 := by
  intro z hz
  rcases List.mem_cons.1 hz with rfl | hz
  · exact h
  · exact cmpT_is.trans _ _ _ h (up_head hb z hz)
theorem rows_cons (x : RR) (a : List RR) : rows (x :: a) = x.rw :: rows a := rfl
theorem comb_mom (h0 : op false false = false) : ∀ (n : Nat) (a b : List RR), a.length + b.length ≤ n → Up (rows a) → Up (rows b) → ∀ t k, k < 64 → mom (combL op (pairsL a b)) t k = op (mom (rows a) t k) (mom (rows b) t k)
  | _, [], [], _, _, _, t, k, hk => by rw [pairs_nil]; exact h0.symm
  | 0, x :: a, b, h, _, _, _, _, _ => by simp at h
  | 0, [], y :: b, h, _, _, _, _, _ => by simp at h
  | n + 1, x :: a, [], h, ha, hb, t, k, hk => by
    have ih := comb_mom h0 n a [] (by simp at h ⊢; omega) ha.2 hb t k hk
    rw [pairs_left]
    show mom (comb1 op _ ++ combL op _) t k = _
    rw [mom_append, mom_comb1 _ _ hk, ih, rows_cons, mom_cons]
    show (decide (x.t = t) && op (setOf x.s k) false || op (mom (rows a) t k) false) = op (decide (x.t = t) && setOf x.s k || mom (rows a) t k) false
    by_cases e : x.t = t
    · subst e
      rw [mom_less (up_head ha) k, decide_eq_true rfl, h0]; simp
    · rw [decide_eq_false e]; simp
  | n + 1, [], y :: b, h, ha, hb, t, k, hk => by
    have ih := comb_mom h0 n [] b (by simp at h ⊢; omega) ha hb.2 t k hk
    rw [pairs_right]
    show mom (comb1 op _ ++ combL op _) t k = _
    rw [mom_append, mom_comb1 _ _ hk, ih, rows_cons, mom_cons]
    show (decide (y.t = t) && op false (setOf y.s k) || op false (mom (rows b) t k)) = op false (decide (y.t = t) && setOf y.s k || mom (rows b) t k)
    by_cases e : y.t = t
    · subst e
      rw [mom_less (up_head hb) k, decide_eq_true rfl, h0]; simp
    · rw [decide_eq_false e]; simp
  | n + 1, x :: a, y :: b, h, ha, hb, t, k, hk => by
    rcases Int.lt_trichotomy (cmpT x.t y.t) 0 with hc | hc | hc
    · have ih := comb_mom h0 n a (y :: b) (by simp at h ⊢; omega) ha.2 hb t k hk
      rw [pairs_lt hc]
      show mom (comb1 op _ ++ combL op _) t k = _
      rw [mom_append, mom_comb1 _ _ hk, ih, rows_cons x, mom_cons]
      show (decide (x.t = t) && op (setOf x.s k) false || op (mom (rows a) t k) (mom (rows (y :: b)) t k)) = op (decide (x.t = t) && setOf x.s k || mom (rows a) t k) (mom (rows (y :: b)) t k)
      by_cases e : x.t = t
      · subst e
        rw [mom_less (up_head ha) k, mom_less (up_all hc hb) k, decide_eq_true rfl, h0]; simp
      · rw [decide_eq_false e]; simp
    · have ih := comb_mom h0 n a b (by simp at h ⊢; omega) ha.2 hb.2 t k hk
      rw [pairs_eq hc]
      have exy := (cmpT_is.eq _ _).1 hc
      show mom (comb1 op _ ++ combL op _) t k = _
      rw [mom_append, mom_comb1 _ _ hk, ih, rows_cons x, mom_cons, rows_cons y, mom_cons]
      show (decide (x.t = t) && op (setOf x.s k) (setOf y.s k) || op (mom (rows a) t k) (mom (rows b) t k)) = op (decide (x.t = t) && setOf x.s k || mom (rows a) t k) (decide (y.t = t) && setOf y.s k || mom (rows b) t k)
      by_cases e : x.t = t
      · subst e
        rw [mom_less (up_head ha) k, exy, mom_less (up_head hb) k, decide_eq_true rfl, h0]; simp
      · rw [decide_eq_false e, decide_eq_false (by rw [← exy]; exact e)]; simp
    · have hc' : cmpT y.t x.t < 0 := by have := cmpT_is.anti x.t y.t; omega
      have ih := comb_mom h0 n (x :: a) b (by simp at h ⊢; omega) ha hb.2 t k hk
      rw [pairs_gt hc]
      show mom (comb1 op _ ++ combL op _) t k = _
      rw [mom_append, mom_comb1 _ _ hk, ih, rows_cons y, mom_cons]
      show (decide (y.t = t) && op false (setOf y.s k) || op (mom (rows (x :: a)) t k) (mom (rows b) t k)) = op (mom (rows (x :: a)) t k) (decide (y.t = t) && setOf y.s k || mom (rows b) t k)
      by_cases e : y.t = t
      · subst e
        rw [mom_less (up_head hb) k, mom_less (up_all hc' ha) k, decide_eq_true rfl, h0]; simp
      · rw [decide_eq_false e]; simp
theorem pairs_from : ∀ (n : Nat) (a b : List RR), a.length + b.length ≤ n → ∀ p ∈ pairsL a b, (p.1 ∈ a ∨ ∃ y ∈ b, p.1 = argsRow y) ∧ (p.2 ∈ b ∨ p.2 = noRow)
  | _, [], [], _, p, hp => by rw [pairs_nil] at hp; cases hp
  | 0, x :: a, b, h, _, _ => by simp at h
  | 0, [], y :: b, h, _, _ => by simp at h
  | n + 1, x :: a, [], h, p, hp => by
    rw [pairs_left] at hp
    rcases List.mem_cons.1 hp with rfl | hp
    · exact ⟨.inl (by simp), .inr rfl⟩
    · obtain ⟨h1, h2⟩ := pairs_from n a [] (by simp at h ⊢; omega) p hp
      exact ⟨h1.imp (fun h => by simp [h]) id, h2⟩
  | n + 1, [], y :: b, h, p, hp => by
    rw [pairs_right] at hp
    rcases List.mem_cons.1 hp with rfl | hp
    · exact ⟨.inr ⟨y, by simp, rfl⟩, .inl (by simp)⟩
    · obtain ⟨h1, h2⟩ := pairs_from n [] b (by simp at h ⊢; omega) p hp
      exact ⟨h1.imp id (fun ⟨y, hy, e⟩ => ⟨y, by simp [hy], e⟩), h2.imp (fun h => by simp [h]) id⟩
  | n + 1, x :: a, y :: b, h, p, hp => by
    rcases Int.lt_trichotomy (cmpT x.t y.t) 0 with hc | hc | hc
    · rw [pairs_lt hc] at hp
      rcases List.mem_cons.1 hp with rfl | hp
      · exact ⟨.inl (by simp), .inr rfl⟩
      · obtain ⟨h1, h2⟩ := pairs_from n a (y :: b) (by simp at h ⊢; omega) p hp
        exact ⟨h1.imp (fun h => by simp [h]) id, h2⟩
    · rw [pairs_eq hc] at hp
      rcases List.mem_cons.1 hp with rfl | hp
      · exact ⟨.inl (by simp), .inl (by simp)⟩
      · obtain ⟨h1, h2⟩ := pairs_from n a b (by simp at h ⊢; omega) p hp
        exact ⟨h1.imp (fun h => by simp [h]) (fun ⟨y, hy, e⟩ => ⟨y, by simp [hy], e⟩), h2.imp (fun h => by simp [h]) id⟩
    · rw [pairs_gt hc] at hp
      rcases List.mem_cons.1 hp with rfl | hp
      · exact ⟨.inr ⟨y, by simp, rfl⟩, .inl (by simp)⟩
      · obtain ⟨h1, h2⟩ := pairs_from n (x :: a) b (by simp at h ⊢; omega) p hp
        exact ⟨h1.imp id (fun ⟨y, hy, e⟩ => ⟨y, by simp [hy], e⟩), h2.imp (fun h => by simp [h]) id⟩
theorem pairs_mem {a b : List RR} {p : RR × RR} (h : p ∈ pairsL a b) : (p.1 ∈ a ∨ ∃ y ∈ b, p.1 = argsRow y) ∧ (p.2 ∈ b ∨ p.2 = noRow) := pairs_from _ a b (Nat.le_refl _) p h
theorem pairs_tuple {a b : List RR} {p : RR × RR} (h : p ∈ pairsL a b) : ∃ x, (x ∈ a ∨ x ∈ b) ∧ p.1.t = x.t := by
  rcases (pairs_mem h).1 with h | ⟨y, hy, e⟩
  · exact ⟨_, .inl h, rfl⟩
  · exact ⟨y, .inr hy, by rw [e]; rfl⟩
theorem comb_tuple {a b : List RR} {y : Rw} (h : y ∈ combL op (pairsL a b)) : ∃ x, (x ∈ a ∨ x ∈ b) ∧ y.1 = x.t := by
  obtain ⟨p, hp, hy⟩ := List.mem_flatMap.1 h
  obtain ⟨x, hx, e⟩ := pairs_tuple hp
  unfold comb1 at hy
  split at hy
  · cases hy
  · simp at hy; subst hy; exact ⟨x, hx, e⟩
theorem comb_ok {l : List (RR × RR)} {y : Rw} (h : y ∈ combL op l) : OkW y.2 := by
  obtain ⟨p, hp, hy⟩ := List.mem_flatMap.1 h
  unfold comb1 at hy
  split at hy
  · cases hy
  · rename_i h0; simp at hy; subst hy; exact okW_canon h0
theorem up_comb1 {t : Tp} {p : RR × RR} {l : List Rw} (hp : p.1.t = t) (hl : Up l) (hx : ∀ y ∈ l, cmpT t y.1 < 0) : Up (comb1 op p ++ l) := by
  unfold comb1
  split
  · exact hl
  · exact ⟨fun y hy => by rw [hp]; exact hx y hy, hl⟩
theorem comb_up : ∀ (n : Nat) (a b : List RR), a.length + b.length ≤ n → Up (rows a) → Up (rows b) → Up (combL op (pairsL a b))
  | _, [], [], _, _, _ => by rw [pairs_nil]; trivial
  | 0, x :: a, b, h, _, _ => by simp at h
  | 0, [], y :: b, h, _, _ => by simp at h
  | n + 1, x :: a, [], h, ha, hb => by
    rw [pairs_left]
    refine up_comb1 (t := x.t) rfl (comb_up n a [] (by simp at h ⊢; omega) ha.2 hb) fun y hy => ?_
    obtain ⟨z, hz, e⟩ := comb_tuple hy
    rw [e]
    rcases hz with hz | hz
    · exact up_head ha z hz
    · cases hz
  | n + 1, [], y :: b, h, ha, hb => by
    rw [pairs_right]
    refine up_comb1 (t := y.t) rfl (comb_up n [] b (by simp at h ⊢; omega) ha hb.2) fun z hy => ?_
    obtain ⟨z, hz, e⟩ := comb_tuple hy
    rw [e]
    rcases hz with hz | hz
    · cases hz
    · exact up_head hb z hz
  | n + 1, x :: a, y :: b, h, ha, hb => by
    rcases Int.lt_trichotomy (cmpT x.t y.t) 0 with hc | hc | hc
    · rw [pairs_lt hc]
      refine up_comb1 (t := x.t) rfl (comb_up n a (y :: b) (by simp at h ⊢; omega) ha.2 hb) fun z hy => ?_
      obtain ⟨z, hz, e⟩ := comb_tuple hy
      rw [e]
      rcases hz with hz | hz
      · exact up_head ha z hz
      · exact up_all hc hb z hz
    · rw [pairs_eq hc]
      refine up_comb1 (t := x.t) rfl (comb_up n a b (by simp at h ⊢; omega) ha.2 hb.2) fun z hy => ?_
      obtain ⟨z, hz, e⟩ := comb_tuple hy
      rw [e]
      rcases hz with hz | hz
      · exact up_head ha z hz
      · rw [(cmpT_is.eq _ _).1 hc]; exact up_head hb z hz
    · have hc' : cmpT y.t x.t < 0 := by have := cmpT_is.anti x.t y.t; omega
      rw [pairs_gt hc]
      refine up_comb1 (t := y.t) rfl (comb_up n (x :: a) b (by simp at h ⊢; omega) ha hb.2) fun z hy => ?_
      obtain ⟨z, hz, e⟩ := comb_tuple hy
      rw [e]
      rcases hz with hz | hz
      · exact up_all hc' ha z hz
      · exact up_head hb z hz
theorem pairs_len : ∀ (n : Nat) (a b : List RR), a.length + b.length ≤ n → (pairsL a b).length ≤ a.length + b.length
  | _, [], [], _ => by rw [pairs_nil]; simp
  | 0, x :: a, b, h => by simp at h
  | 0, [], y :: b, h => by simp at h
  | n + 1, x :: a, [], h => by
    rw [pairs_left]; have := pairs_len n a [] (by simp at h ⊢; omega); simp at this ⊢; omega
  | n + 1, [], y :: b, h => by
    rw [pairs_right]; have := pairs_len n [] b (by simp at h ⊢; omega); simp at this ⊢; omega
  | n + 1, x :: a, y :: b, h => by
    rcases Int.lt_trichotomy (cmpT x.t y.t) 0 with hc | hc | hc
    · rw [pairs_lt hc]; have := pairs_len n a (y :: b) (by simp at h ⊢; omega); simp at this ⊢; omega
    · rw [pairs_eq hc]; have := pairs_len n a b (by simp at h ⊢; omega); simp at this ⊢; omega
    · rw [pairs_gt hc]; have := pairs_len n (x :: a) b (by simp at h ⊢; omega); simp at this ⊢; omega
end
/-- The result of an operation on two relations. -/
structure OpOf (op : Bool → Bool → Bool) (xs ys zs : List RR) : Prop where
  can : IsCan (rows zs)
  mom : ∀ t k, k < 64 → mom (rows zs) t k = op (mom (rows xs) t k) (mom (rows ys) t k)
  sml : ∀ n m, Sml n xs → Sml m ys → Sml (n + m) zs
theorem opOf_comb {op : Bool → Bool → Bool} (h0 : op false false = false) {xs ys al bl out : List RR} (ha : CanOf xs al) (hb : CanOf ys bl) (ho : rows out = combL op (pairsL al bl)) : OpOf op xs ys out := by
  refine ⟨?_, fun t k hk => ?_, fun n m hn hm => ?_⟩
  · rw [ho]
    exact ⟨comb_up _ al bl (Nat.le_refl _) ha.can.1 hb.can.1, fun y hy => comb_ok hy⟩
  · rw [ho, comb_mom h0 _ al bl (Nat.le_refl _) ha.can.1 hb.can.1 t k hk, ha.mom t k hk, hb.mom t k hk]
  · have s1 := ha.sml n hn
    have s2 := hb.sml m hm
    refine ⟨?_, fun z hz => ?_⟩
    · have h1 : out.length = (combL op (pairsL al bl)).length := by rw [← ho, rows_length]
      have h2 := pairs_len _ al bl (Nat.le_refl _)
      have h3 : (combL op (pairsL al bl)).length ≤ (pairsL al bl).length := by
        unfold combL
        generalize pairsL al bl = l
        induction l with
        | nil => simp
        | cons p l ih =>
          rw [List.flatMap_cons, List.length_append, List.length_cons]
          have : (comb1 op p).length ≤ 1 := by unfold comb1; split <;> simp
          omega
      have := s1.len; have := s2.len; omega
    · have hz2 : z.rw ∈ combL op (pairsL al bl) := by rw [← ho]; exact mem_rows.2 ⟨z, hz, rfl⟩
      obtain ⟨x, hx, e⟩ := comb_tuple hz2
      have hw := comb_ok hz2
      refine ⟨?_, ?_⟩
      · have e' : z.t = x.t := e
        rw [e']
        rcases hx with hx | hx
        · exact (s1.each x hx).1
        · exact (s2.each x hx).1
      · have hw' : OkW z.s := hw
        rw [← hw'.2]
        exact Nat.le_trans (canon_le _) (by omega)
end Go.Proofs.YtdibijhaiaiifaaDoor
