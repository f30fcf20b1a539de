/- The walk of canonical. -/
import Derived.Test.YtdibijhaiaiifaaDoorCan
namespace Go.Proofs.YtdibijhaiaiifaaDoor
open Go.RowKit
theorem getElem_of_lt {α : Type} {l : List α} {i : Nat} (h : i < l.length) : ∃ x, l[i]? = some x := ⟨_, List.getElem?_eq_getElem h⟩
set_option maxHeartbeats 4000000 in
set_option maxRecDepth 1000000 in
theorem canonical_any (v : Value) (xs : List RR) (w : World) (hT : Tab w) (h : IsRel w v xs) (hs : Sml 10000 xs) :
    Calls Tryd.prog 87 #[v] w fun e w' => ∃ u, e = .returned u ∧ ∃ ys, IsRelF w' w.heap.size u ys ∧ CanOf xs ys ∧ Below w.heap.size w w' := by
  have HS := Lib.hid hs
  have hl : xs.length ≤ 1000000 := by have := hs.len; omega
  have hok := h.2
  clear hs
  go_enter Tryd.func87, Tryd.ntmps87
  go_wp2_with fail
  refine (CloneR_any v xs _ h.1 hl).mono ?_
  rintro e w1 ⟨u, rfl, hO, hB⟩
  go_wp2_with fail
  refine (sort_any w w1 u xs hO hB hok hl).mono ?_
  rintro e w2 ⟨rfl, L, P, T, R, B2⟩
  have HP := Lib.hid P
  have HT := Lib.hid T
  have HE : Hid (∀ x ∈ L, x.t.length ≤ 64 ∧ x.s.length ≤ 64) := Lib.hid fun x hx => HS.out.each x (P.mem_iff.1 hx)
  have hLn : L.length ≤ 10000 := by have := P.length_eq; have := HS.out.len; omega
  have hT2 := hT.keep B2
  obtain ⟨pa, pc, rfl, -⟩ := R.shape
  clear hO hB hok h P T hl hT
  go_wp2
  go_loopg [4, 5] L.length (fun g v4 vi wr => ∃ (i : Nat) (out : List RR), vi = .int .i64 i ∧ i ≤ L.length ∧ L.length - i ≤ g ∧ Hid (CInv L out i) ∧ Hold 2 44 encR RowOk (fun k => k < w.heap.size) wr w2.heap.size v4 out ∧ Below w2.heap.size w2 wr)
  case atStart => exact ⟨0, [], rfl, by omega, by omega, Lib.hid (CInv.start L), Hold.nil _ _, Below.refl _ _⟩
  case round =>
    obtain ⟨i, out, rfl, hi, hg, C, H4, Br⟩ := hrel
    by_cases hlt : i < L.length
    · have hltz : (i : Int) < (L.length : Int) := by omega
      obtain ⟨r, hr⟩ := getElem_of_lt hlt
      obtain ⟨b, off, rfl, -⟩ := R.at_ hr
      have HR := Lib.hid hr
      clear hr
      obtain ⟨w3, hw3⟩ : ∃ x, x = wr := ⟨_, rfl⟩
      rw [← hw3] at H4 Br
      obtain ⟨p4, c4, rfl⟩ := H4.form
      go_wp2
      go_loopg [6, 7] (L.length + 1) (fun g v6 vk wq => ∃ (k : Nat) (W : List Sp), vk = .int .i64 k ∧ k ≤ L.length ∧ L.length + 1 - k ≤ g ∧ Hid (WInv L r.t i k W) ∧ Owns 2 86 encSp wq w3.heap.size v6 W ∧ Below w3.heap.size w3 wq)
      case atStart => exact ⟨i, [], rfl, by omega, by omega, Lib.hid (WInv.start L r.t i), Owns.nil _ _, by rw [hw3]; exact Below.refl _ _⟩
      case round =>
        clear hw3
        obtain ⟨k, W, rfl, hk, hg2, V, H6, Bq⟩ := hrel
        obtain ⟨q, HQ⟩ : ∃ q : Bool, Hid (q = true ↔ ∃ y, L[k]? = some y ∧ cmpT r.t y.t = 0) := ⟨decide (∃ y, L[k]? = some y ∧ cmpT r.t y.t = 0), Lib.hid (by simp)⟩
        have Rq := R.keep (below_trans Br (Bq.mono (Nat.le_refl _)))
        go_upto_region 8 with fail
        go_cut [32] from 17 to 32 (fun v32 wx => v32 = .bool q ∧ Grew wr wx)
        case first =>
          obtain ⟨b1, o1, e1, c0, c1, rx⟩ := Rq.at_ HR.out
          cases e1
          replace c0 := After.cell c0
          replace c1 := After.cell c1
          by_cases hk2 : k < L.length
          · have hkz : (k : Int) < (L.length : Int) := by omega
            obtain ⟨y, hy⟩ := getElem_of_lt hk2
            obtain ⟨b2, o2, e2, d0, d1, ry⟩ := Rq.at_ hy
            cases e2
            replace d0 := After.cell d0
            replace d1 := After.cell d1
            obtain ⟨z, hz⟩ : ∃ z, cmpT r.t y.t = z := ⟨_, rfl⟩
            have HQ2 : Hid (q = (z == 0)) := Lib.hid (by
              rw [Bool.eq_iff_iff, HQ.out, hy, beq_iff_eq, ← hz]
              exact ⟨fun ⟨y', e, h⟩ => by cases e; exact h, fun h => ⟨y, rfl, h⟩⟩)
            clear hy
            refine wp_region_after (by kernel_rfl) (by kernel_rfl) ?_
            repeat (quiet_step ((go_at_call 73; exact byArgs_after rx ry _)))
            refine wpQuiet_nil ?_
            intro w5 hg5
            clear c0 c1 d0 d1
            rw [← HQ2.out]
            go_wp2
            go_meet
            case rel => exact ⟨rfl, hg5⟩
          · have hkz : ¬ (k : Int) < (L.length : Int) := by omega
            have hqf : q = false := by
              cases q with
              | false => rfl
              | true => obtain ⟨y, hy, _⟩ := HQ.out.1 rfl; have := (List.getElem?_eq_some_iff.1 hy).1; omega
            subst hqf
            clear c0 c1 rx
            go_region
            go_wp2
            go_meet
            case rel => exact ⟨rfl, (Grew.refl _).drew⟩
        case rest =>
          obtain ⟨rfl, gq⟩ := hcut
          replace Rq := Rq.keep gq.below
          replace H6 := H6.keep gq.below
          replace Bq := Bq.trans (gq.below.mono Bq.size)
          clear gq
          obtain ⟨p6, c6, rfl⟩ := H6.form
          cases q
          · have HEND : Hid (∀ x, L[k]? = some x → ¬ cmpT r.t x.t = 0) := Lib.hid fun x hx he => by have := HQ.out.2 ⟨x, hx, he⟩; cases this
            have hik : i < k := V.out.more HR.out (.inr HEND.out)
            have hW : W.length ≤ 1000000 := by have := V.out.len HE.out; omega
            have h6 := IsSpans.of_rows (H6.is encsS (by omega))
            have hTq := (hT2.keep Br).keep Bq
            go_wp2_with fail
            refine (Of_any _ W _ hTq h6).mono ?_
            rintro e w5 ⟨u5, rfl, ⟨h5, f5⟩, B5⟩
            obtain ⟨S, hS⟩ : ∃ S, Hid (canon (setOf W) = S) := ⟨_, Lib.hid rfl⟩
            rw [hS.out] at h5
            obtain ⟨p5, c5, rfl, h5⟩ := h5
            have hSl : S.length ≤ 32 := by rw [← hS.out]; exact canon_le _
            have R5 := Rq.keep B5
            have F5 := f5
            have Z5 := B5.size
            replace B5 := Bq.trans (B5.mono Bq.size)
            by_cases hS0 : S.length = 0
            · have CN := Lib.hid (C.out.skip V.out (by rw [hS.out]; exact List.eq_nil_of_length_eq_zero hS0))
              have hSz : ¬ (0 : Int) < (S.length : Int) := by omega
              go_wp2
              go_roundg (L.length - k)
              case measure => omega
              case rel => exact ⟨k, out, rfl, hk, Nat.le_refl _, CN, H4.keep B5, Br.trans (B5.mono Br.size)⟩
            · have hSz : (0 : Int) < (S.length : Int) := by omega
              obtain ⟨b1, o1, e1, c0, -, rx⟩ := R5.at_ HR.out
              cases e1
              have hrl := (HE.out r (List.mem_of_getElem? HR.out)).1
              go_wp2_with fail
              refine (CloneV_any _ r.t _ rx.1 (by omega)).mono ?_
              rintro e w6 ⟨u7, rfl, h7, B6⟩
              obtain ⟨p7, c7, rfl⟩ := h7.form
              have hq : RowOk w6 ⟨p7, c7, r.t, p5, c5, S⟩ := ⟨h7.is encsV (by omega), IsSpans.keep ⟨p5, c5, rfl, h5⟩ B6⟩
              have hm : IsRows 2 encR (w6.alloc (.cells #[.slice p7 r.t.length c7, .slice p5 S.length c5] 44)) (.slice (some ⟨w6.heap.size, 0, none⟩) 1 1) [⟨p7, c7, r.t, p5, c5, S⟩] := IsRows.lit w6 [_] encsR (by simp)
              have B7 := B5.trans (B6.mono B5.size)
              have B8 := B7.alloc B7.size (.cells #[.slice p7 r.t.length c7, .slice p5 S.length c5] 44)
              have hmo : ∀ u ∈ [(⟨p7, c7, r.t, p5, c5, S⟩ : RR)], Off RowOk (w6.alloc (.cells #[.slice p7 r.t.length c7, .slice p5 S.length c5] 44)) (Ex (.slice p4 out.length c4) (fun k => k < w.heap.size)) u := by
                intro u hu
                simp at hu
                subst hu
                have hq2 := hq.keep (below_new w6 (.cells #[.slice p7 r.t.length c7, .slice p5 S.length c5] 44))
                refine row_fresh (base := w3.heap.size) hq2 (Fresh.mono h7.fresh (Nat.le_trans Bq.size Z5)) (F5.mono Bq.size) fun k hk => ?_
                rcases hk with hk | hk
                · exact (H4.1.lt k hk).2
                · exact Nat.lt_of_lt_of_le hk (Nat.le_trans B2.size Br.size)
              have CN := Lib.hid (CInv.put (q := ⟨p7, c7, r.t, p5, c5, S⟩) HT.out C.out HR.out V.out hik HEND.out (by rw [hS.out]; intro e; rw [e] at hS0; exact hS0 rfl) rfl hS.out.symm)
              have hol : out.length ≤ 1000000 := by have := C.out.len; omega
              go_wp2_with (at_builtin; refine wpList_hold fitsR24 encsR rfl _ _ rfl rfl rfl H4 B8 hm hmo Br.size hol (by simp) ?_; intro p9 c9 w9 H9 B9 hG9)
              go_roundg (L.length - k)
              case measure => omega
              case rel => exact ⟨k, _, rfl, hk, Nat.le_refl _, CN, by rw [List.length_append] at H9; exact H9, Br.trans B9⟩
          · obtain ⟨y, hy, hcy⟩ := HQ.out.1 rfl
            have hk2 : k < L.length := (List.getElem?_eq_some_iff.1 hy).1
            have hkz : (k : Int) < (L.length : Int) := by omega
            obtain ⟨b1, o1, e1, -, c1, ry⟩ := Rq.at_ hy
            cases e1
            have VN := Lib.hid (V.out.step hy hcy)
            have hyl := (HE.out y (List.mem_of_getElem? hy)).2
            have hWl : W.length ≤ 1000000 := by have := V.out.len HE.out; omega
            have hys := ry.2.rows
            clear hy hcy
            go_wp2_with (at_builtin; refine wpList_cat fitsS encsS rfl _ _ rfl rfl rfl H6 (Below.refl _ _) hys Bq.size hWl (by omega) ?_; intro p1 c1 w7 hO hB hG)
            go_roundg (L.length + 1 - (k + 1))
            case measure => omega
            case rel => exact ⟨k + 1, _, by go_num, hk2, Nat.le_refl _, VN, by rw [List.length_append] at hO; exact hO, Bq.trans hB⟩
    · have hltz : ¬ (i : Int) < (L.length : Int) := by omega
      have RES := Lib.hid (C.out.done (by omega) HP.out)
      have hol : out.length ≤ 1000000 := by have := C.out.len; omega
      go_wp2
      go_ret
      exact ⟨_, rfl, out, H4.relF B2.size (by omega), RES.out, B2.trans (Br.mono B2.size)⟩
end Go.Proofs.YtdibijhaiaiifaaDoor
