/- The walk of the law IntervalPieces. -/
import Derived.Test.YtcbopckgnbameaaDoorWp
import Derived.Test.YtcbopckgnbameaaDoorBytes
import Derived.Deep.RegionLaw
import Derived.Deep.AppendLies
namespace Go.Proofs.YtcbopckgnbameaaDoor
open Go.RowKit
theorem cells_list_new (w : World) (xs : List Value) (t : TypeId) : ∀ j u, xs[j]? = some u → (w.alloc (.cells xs.toArray t)).cell? ((⟨w.heap.size, 0, none⟩ : Addr).add j) = some u := by
  intro j u hj
  have e : (w.alloc (.cells xs.toArray t)).heap[w.heap.size]? = some (.cells xs.toArray t) := World.alloc_heap_new w _
  have h := cell_of_row _ w.heap.size j xs.toArray t (0, 0) e
  have ha : (⟨w.heap.size, 0, none⟩ : Addr).add j = ⟨w.heap.size, j, none⟩ := by
    unfold Addr.add
    split
    · rename_i h0; subst h0; rfl
    · simp
  rw [ha, h]
  simpa using hj
theorem pieces_set (out a : List Sp) (j : Nat) (p q c : Int) (hj : j < a.length) (hg : a.getD j (0, 0) = (p, q)) (h1 : p ≤ c) (h2 : c ≤ q ∨ c = p) (h : ∀ k, setOf out k = setOf (a.drop (j + 1)) k) :
    ∀ k, setOf (out ++ [(c, q), (p, c), (p, q)]) k = setOf (a.drop j) k := by
  intro k
  have e : a.drop j = a[j] :: a.drop (j + 1) := List.drop_eq_getElem_cons hj
  have e2 : a[j] = (p, q) := by
    have : a.getD j (0, 0) = a[j] := by simp [hj]
    rw [← this, hg]
  have hk := h k
  unfold setOf at *
  rw [e, e2, has_append, has_cons, has_cons, has_cons, has_cons, has_nil, hk, Bool.or_false, Bool.or_comm]
  congr 1
  rw [Bool.eq_iff_iff]; simp; omega
theorem canon_same {S T : Nat → Bool} (h : ∀ k, S k = T k) : canon S = canon T := canon_ext fun k _ => h k
set_option maxRecDepth 100000 in
set_option maxHeartbeats 8000000 in
theorem law8_any (v_a v_b v_c : Value) (l_a l_b : List Sp) (ys : List Nat) (w : World) (hT : Tab w) (h_a : IsSpans w v_a l_a) (h_b : IsSpans w v_b l_b) (hc : IsBytes w v_c ys) :
    Calls Tryd.prog 8 #[v_a, v_b, v_c] w fun e w' => e = .returned (.bool true) ∧ Below w.heap.size w w' := by
  obtain ⟨i0, hi, hz0', hz1', hz2⟩ := info_parts Tryd.info32
  obtain ⟨ac, cc, rfl, hcb, hcm, hc256⟩ := hc
  have h_a0 := h_a
  obtain ⟨aa, ca, rfl, hsa, hma⟩ := h_a0
  by_cases f_a : l_a.length ≤ 60
  case neg =>
    go_enter Tryd.func8, Tryd.ntmps8
    go_wp2_with fail
    refine (head_any _ hT).mono ?_
    rintro e w1 ⟨rfl, b1⟩
    go_wp2_with fail
    refine (few_is _ _ _ false (h_a.keep b1) (by simp; omega)).mono ?_
    rintro e w2 ⟨rfl, b2⟩
    go_wp2
    go_ret
    exact ⟨rfl, (below_trans b1 b2)⟩
  by_cases f_b : l_b.length ≤ 60
  case neg =>
    go_enter Tryd.func8, Tryd.ntmps8
    go_wp2_with fail
    refine (head_any _ hT).mono ?_
    rintro e w1 ⟨rfl, b1⟩
    go_wp2_with fail
    refine (few_is _ _ _ true (h_a.keep b1) (by simp; omega)).mono ?_
    rintro e w2 ⟨rfl, b2⟩
    go_wp2_with fail
    refine (few_is _ _ _ false (h_b.keep (below_trans b1 b2)) (by simp; omega)).mono ?_
    rintro e w3 ⟨rfl, b3⟩
    go_wp2
    go_ret
    exact ⟨rfl, (below_trans (below_trans b1 b2) b3)⟩
  go_enter Tryd.func8, Tryd.ntmps8
  go_wp2_with fail
  refine (head_any _ hT).mono ?_
  rintro e w1 ⟨rfl, b1⟩
  go_wp2_with fail
  refine (few_is _ _ _ true (h_a.keep b1) (by simp; omega)).mono ?_
  rintro e w2 ⟨rfl, b2⟩
  go_wp2_with fail
  refine (few_is _ _ _ true (h_b.keep (below_trans b1 b2)) (by simp; omega)).mono ?_
  rintro e w3 ⟨rfl, b3⟩
  go_wp2_with fail
  go_loopw [8, 9, 10] (fun v i _ wr => ∃ (j : Nat) (z : Int) (out : List Sp), j ≤ l_a.length ∧ i = .int .i64 z ∧ z = (j : Int) - 1 ∧ wr.ownsRow w3.heap.size 32 2 v out.length (flat out) ∧ out.length + 3 * j = 3 * l_a.length ∧ (∀ k, setOf out k = setOf (l_a.drop j) k) ∧ Below w3.heap.size w3 wr) (fun _ i _ _ => (intOf i + 1).toNat)
  case atStart => exact ⟨l_a.length, _, [], Nat.le_refl _, rfl, rfl, World.ownsRow_nil _ _ _ _, by simp, fun k => by rw [List.drop_length], Below.refl _ _⟩
  case round =>
    obtain ⟨j, z, out, hj, rfl, hz, hown, hol, hset, b4⟩ := hrel
    obtain ⟨w4, rfl⟩ : ∃ x : World, x = wr := ⟨_, rfl⟩
    have hol60 : out.length ≤ 180 := by omega
    have HOL := Lib.hid hol
    have HSET := Lib.hid hset
    clear hol hset
    rcases Nat.eq_zero_or_pos j with hj0 | hj0
    case inl =>
      obtain rfl : z = -1 := by omega
      have HJ := Lib.hid hj0
      clear hj0 hz hj
      have h_p := IsSpans.of_owns hown (by omega)
      have HPS := Lib.hid (show ∀ k, setOf out k = setOf l_a k from fun k => by rw [HSET.out k, HJ.out]; rfl)
      obtain ⟨sz, hsz⟩ : ∃ sz, size l_a = sz := ⟨_, rfl⟩
      have HZ := Lib.hid hsz
      clear hsz
      go_wp2_with fail
      refine (Of_any _ _ _ (hT.keep (below_trans (below_trans (below_trans b1 b2) b3) b4)) h_p).mono ?_
      rintro e w5 ⟨v_o1, rfl, h_o1, b5⟩
      go_wp2_with fail
      refine (Of_any _ _ _ (hT.keep (below_trans (below_trans (below_trans (below_trans b1 b2) b3) b4) b5)) (h_a.keep (below_trans (below_trans (below_trans (below_trans b1 b2) b3) b4) b5))).mono ?_
      rintro e w6 ⟨v_o2, rfl, h_o2, b6⟩
      go_wp2_with fail
      refine (Same_true _ _ _ _ _ (h_o1.keep b6) h_o2 (canon_same fun k => by simp only [HPS.out k])).mono ?_
      rintro e w7 ⟨rfl, b7⟩
      go_wp2_with fail
      refine (Union_any _ _ _ _ _ (hT.keep (below_trans (below_trans (below_trans (below_trans (below_trans (below_trans b1 b2) b3) b4) b5) b6) b7)) (h_p.keep (below_trans (below_trans b5 b6) b7)) (h_b.keep (below_trans (below_trans (below_trans (below_trans (below_trans (below_trans b1 b2) b3) b4) b5) b6) b7))).mono ?_
      rintro e w8 ⟨v_o3, rfl, h_o3, b8⟩
      go_wp2_with fail
      refine (Union_any _ _ _ _ _ (hT.keep (below_trans (below_trans (below_trans (below_trans (below_trans (below_trans (below_trans b1 b2) b3) b4) b5) b6) b7) b8)) (h_a.keep (below_trans (below_trans (below_trans (below_trans (below_trans (below_trans (below_trans b1 b2) b3) b4) b5) b6) b7) b8)) (h_b.keep (below_trans (below_trans (below_trans (below_trans (below_trans (below_trans (below_trans b1 b2) b3) b4) b5) b6) b7) b8))).mono ?_
      rintro e w9 ⟨v_o4, rfl, h_o4, b9⟩
      go_wp2_with fail
      refine (Same_true _ _ _ _ _ (h_o3.keep b9) h_o4 (canon_same fun k => by simp only [HPS.out k])).mono ?_
      rintro e w10 ⟨rfl, b10⟩
      go_wp2_with fail
      refine (Minus_any _ _ _ _ _ (hT.keep (below_trans (below_trans (below_trans (below_trans (below_trans (below_trans (below_trans (below_trans (below_trans b1 b2) b3) b4) b5) b6) b7) b8) b9) b10)) (h_b.keep (below_trans (below_trans (below_trans (below_trans (below_trans (below_trans (below_trans (below_trans (below_trans b1 b2) b3) b4) b5) b6) b7) b8) b9) b10)) (h_p.keep (below_trans (below_trans (below_trans (below_trans (below_trans b5 b6) b7) b8) b9) b10))).mono ?_
      rintro e w11 ⟨v_o5, rfl, h_o5, b11⟩
      go_wp2_with fail
      refine (Minus_any _ _ _ _ _ (hT.keep (below_trans (below_trans (below_trans (below_trans (below_trans (below_trans (below_trans (below_trans (below_trans (below_trans b1 b2) b3) b4) b5) b6) b7) b8) b9) b10) b11)) (h_b.keep (below_trans (below_trans (below_trans (below_trans (below_trans (below_trans (below_trans (below_trans (below_trans (below_trans b1 b2) b3) b4) b5) b6) b7) b8) b9) b10) b11)) (h_a.keep (below_trans (below_trans (below_trans (below_trans (below_trans (below_trans (below_trans (below_trans (below_trans (below_trans b1 b2) b3) b4) b5) b6) b7) b8) b9) b10) b11))).mono ?_
      rintro e w12 ⟨v_o6, rfl, h_o6, b12⟩
      go_wp2_with fail
      refine (Same_true _ _ _ _ _ (h_o5.keep b12) h_o6 (canon_same fun k => by simp only [HPS.out k])).mono ?_
      rintro e w13 ⟨rfl, b13⟩
      go_wp2_with fail
      refine (Meet_any _ _ _ _ _ (hT.keep (below_trans (below_trans (below_trans (below_trans (below_trans (below_trans (below_trans (below_trans (below_trans (below_trans (below_trans (below_trans b1 b2) b3) b4) b5) b6) b7) b8) b9) b10) b11) b12) b13)) (h_p.keep (below_trans (below_trans (below_trans (below_trans (below_trans (below_trans (below_trans (below_trans b5 b6) b7) b8) b9) b10) b11) b12) b13)) (h_b.keep (below_trans (below_trans (below_trans (below_trans (below_trans (below_trans (below_trans (below_trans (below_trans (below_trans (below_trans (below_trans b1 b2) b3) b4) b5) b6) b7) b8) b9) b10) b11) b12) b13))).mono ?_
      rintro e w14 ⟨v_o7, rfl, h_o7, b14⟩
      go_wp2_with fail
      refine (Meet_any _ _ _ _ _ (hT.keep (below_trans (below_trans (below_trans (below_trans (below_trans (below_trans (below_trans (below_trans (below_trans (below_trans (below_trans (below_trans (below_trans b1 b2) b3) b4) b5) b6) b7) b8) b9) b10) b11) b12) b13) b14)) (h_a.keep (below_trans (below_trans (below_trans (below_trans (below_trans (below_trans (below_trans (below_trans (below_trans (below_trans (below_trans (below_trans (below_trans b1 b2) b3) b4) b5) b6) b7) b8) b9) b10) b11) b12) b13) b14)) (h_b.keep (below_trans (below_trans (below_trans (below_trans (below_trans (below_trans (below_trans (below_trans (below_trans (below_trans (below_trans (below_trans (below_trans b1 b2) b3) b4) b5) b6) b7) b8) b9) b10) b11) b12) b13) b14))).mono ?_
      rintro e w15 ⟨v_o8, rfl, h_o8, b15⟩
      go_wp2_with fail
      refine (Same_true _ _ _ _ _ (h_o7.keep b15) h_o8 (canon_same fun k => by simp only [HPS.out k])).mono ?_
      rintro e w16 ⟨rfl, b16⟩
      go_wp2_with fail
      refine (Size_is _ _ _ sz (h_p.keep (below_trans (below_trans (below_trans (below_trans (below_trans (below_trans (below_trans (below_trans (below_trans (below_trans (below_trans b5 b6) b7) b8) b9) b10) b11) b12) b13) b14) b15) b16)) (by rw [← HZ.out]; exact cntTo_ext fun k _ => HPS.out k)).mono ?_
      rintro e w17 ⟨rfl, b17⟩
      go_wp2_with fail
      refine (Size_is _ _ _ sz (h_a.keep (below_trans (below_trans (below_trans (below_trans (below_trans (below_trans (below_trans (below_trans (below_trans (below_trans (below_trans (below_trans (below_trans (below_trans (below_trans (below_trans b1 b2) b3) b4) b5) b6) b7) b8) b9) b10) b11) b12) b13) b14) b15) b16) b17)) HZ.out).mono ?_
      rintro e w18 ⟨rfl, b18⟩
      go_wp2
      go_ret
      exact ⟨rfl, (below_trans (below_trans (below_trans (below_trans (below_trans (below_trans (below_trans (below_trans (below_trans (below_trans (below_trans (below_trans (below_trans (below_trans (below_trans (below_trans (below_trans b1 b2) b3) b4) b5) b6) b7) b8) b9) b10) b11) b12) b13) b14) b15) b16) b17) b18)⟩
    case inr =>
      obtain ⟨i, rfl⟩ : ∃ i, j = i + 1 := ⟨j - 1, by omega⟩
      obtain rfl : z = (i : Int) := by omega
      have hlt : i < l_a.length := by omega
      clear hz hj0
      obtain ⟨bb, off, rfl, hcs⟩ := (hsa.keep (below_trans (below_trans (below_trans b1 b2) b3) b4)).at_ hlt
      obtain ⟨c1, c2⟩ := hcs i hlt
      clear hcs
      obtain ⟨sp, hsp⟩ : ∃ sp, l_a.getD i (0, 0) = sp := ⟨_, rfl⟩
      rw [hsp] at c1 c2
      have HSP := Lib.hid hsp
      clear hsp
      obtain ⟨p, q⟩ := sp
      dsimp only at c1 c2
      have g1 : (i : Int) < l_a.length := by omega
      have D1 : w4.drew.cell? ⟨bb, off + i * 2, none⟩ = some (.int .i64 p) := c1
      by_cases hy : i < ys.length
      case pos =>
        obtain ⟨bc, offc, rfl, hcc⟩ := (hcb.keep (below_trans (below_trans (below_trans b1 b2) b3) b4)).at_ hy
        have c3 := hcc i hy
        clear hcc
        have hyb := hc256 i
        clear hc256
        generalize ys.getD i 0 = y at *
        by_cases m1 : q < (y : Int) % 64
        case pos =>
          by_cases m2 : p < q
          case pos =>
            go_wp2
            go_quiet (fail)
            go_wp2_with fail
            have c1d : (w4.drewN nq).cell? ⟨bb, off + i * 2, none⟩ = some (.int .i64 p) := c1
            have c2d : (w4.drewN nq).cell? ⟨bb, off + i * 2 + 1, none⟩ = some (.int .i64 q) := c2
            have hownd : (w4.drewN nq).ownsRow w3.heap.size 32 2 u8 out.length (flat out) := hown
            have bd : Below w3.heap.size w3 (w4.drewN nq) := below_drewN b4 nq
            have hpc := Lib.hid (pieces_set out l_a i p q (q) hlt HSP.out (by omega) (by omega) HSET.out)
            generalize w4.drewN nq = wd at *
            go_region_law (refine step_append_lies _ rfl (.tmp 56) (.tmp 75) 22 rfl w3.heap.size 32 i0 (.agg #[.int .i64 0, .int .i64 0]) 2 16 Tryd.underlying22 hi hz0' hz1' hz2 rfl (by decide) _ _ _ rfl (hownd.drew.alloc _) ⟨wd.heap.size, 0, none⟩ 3 3 [.int .i64 q, .int .i64 q, .int .i64 p, .int .i64 q, .int .i64 p, .int .i64 q] rfl rfl (cells_list_new _ _ _) (by simp [Value.oneCell']) (by decide) (by unfold maxLen; omega) (by omega) (by have := bd.size; simp; omega) _ rfl ?_; intro g cap wx hown' hgrow hg1 hg2)
            all_goals
              have bx : Below w3.heap.size w3 wx := (bd.drew.alloc (by have := bd.size; simp; omega) _).grown hgrow (by have := bd.size; simp; omega) (own_from hownd)
              go_wp2
              go_roundw
              case rel => exact ⟨i, _, out ++ [(q, q), (p, q), (p, q)], by omega, rfl, by omega, by simpa [flat_append, flat] using hown', by have := HOL.out; simp; omega, hpc.out, bx⟩
              case measure => first | (simp [intOf]; done) | (simp [intOf]; omega)
          case neg =>
            go_wp2
            go_quiet (fail)
            go_wp2_with fail
            have c1d : (w4.drewN nq).cell? ⟨bb, off + i * 2, none⟩ = some (.int .i64 p) := c1
            have c2d : (w4.drewN nq).cell? ⟨bb, off + i * 2 + 1, none⟩ = some (.int .i64 q) := c2
            have hownd : (w4.drewN nq).ownsRow w3.heap.size 32 2 u8 out.length (flat out) := hown
            have bd : Below w3.heap.size w3 (w4.drewN nq) := below_drewN b4 nq
            have hpc := Lib.hid (pieces_set out l_a i p q (p) hlt HSP.out (by omega) (by omega) HSET.out)
            generalize w4.drewN nq = wd at *
            go_region_law (refine step_append_lies _ rfl (.tmp 56) (.tmp 75) 22 rfl w3.heap.size 32 i0 (.agg #[.int .i64 0, .int .i64 0]) 2 16 Tryd.underlying22 hi hz0' hz1' hz2 rfl (by decide) _ _ _ rfl (hownd.drew.alloc _) ⟨wd.heap.size, 0, none⟩ 3 3 [.int .i64 p, .int .i64 q, .int .i64 p, .int .i64 p, .int .i64 p, .int .i64 q] rfl rfl (cells_list_new _ _ _) (by simp [Value.oneCell']) (by decide) (by unfold maxLen; omega) (by omega) (by have := bd.size; simp; omega) _ rfl ?_; intro g cap wx hown' hgrow hg1 hg2)
            all_goals
              have bx : Below w3.heap.size w3 wx := (bd.drew.alloc (by have := bd.size; simp; omega) _).grown hgrow (by have := bd.size; simp; omega) (own_from hownd)
              go_wp2
              go_roundw
              case rel => exact ⟨i, _, out ++ [(p, q), (p, p), (p, q)], by omega, rfl, by omega, by simpa [flat_append, flat] using hown', by have := HOL.out; simp; omega, hpc.out, bx⟩
              case measure => first | (simp [intOf]; done) | (simp [intOf]; omega)
        case neg =>
          by_cases m2 : p < (y : Int) % 64
          case pos =>
            go_wp2
            go_quiet (fail)
            go_wp2_with fail
            have c1d : (w4.drewN nq).cell? ⟨bb, off + i * 2, none⟩ = some (.int .i64 p) := c1
            have c2d : (w4.drewN nq).cell? ⟨bb, off + i * 2 + 1, none⟩ = some (.int .i64 q) := c2
            have hownd : (w4.drewN nq).ownsRow w3.heap.size 32 2 u8 out.length (flat out) := hown
            have bd : Below w3.heap.size w3 (w4.drewN nq) := below_drewN b4 nq
            have hpc := Lib.hid (pieces_set out l_a i p q ((y : Int) % 64) hlt HSP.out (by omega) (by omega) HSET.out)
            generalize w4.drewN nq = wd at *
            generalize (y : Int) % 64 = yy at *
            go_region_law (refine step_append_lies _ rfl (.tmp 56) (.tmp 75) 22 rfl w3.heap.size 32 i0 (.agg #[.int .i64 0, .int .i64 0]) 2 16 Tryd.underlying22 hi hz0' hz1' hz2 rfl (by decide) _ _ _ rfl (hownd.drew.alloc _) ⟨wd.heap.size, 0, none⟩ 3 3 [.int .i64 yy, .int .i64 q, .int .i64 p, .int .i64 yy, .int .i64 p, .int .i64 q] rfl rfl (cells_list_new _ _ _) (by simp [Value.oneCell']) (by decide) (by unfold maxLen; omega) (by omega) (by have := bd.size; simp; omega) _ rfl ?_; intro g cap wx hown' hgrow hg1 hg2)
            all_goals
              have bx : Below w3.heap.size w3 wx := (bd.drew.alloc (by have := bd.size; simp; omega) _).grown hgrow (by have := bd.size; simp; omega) (own_from hownd)
              go_wp2
              go_roundw
              case rel => exact ⟨i, _, out ++ [(yy, q), (p, yy), (p, q)], by omega, rfl, by omega, by simpa [flat_append, flat] using hown', by have := HOL.out; simp; omega, hpc.out, bx⟩
              case measure => first | (simp [intOf]; done) | (simp [intOf]; omega)
          case neg =>
            go_wp2
            go_quiet (fail)
            go_wp2_with fail
            have c1d : (w4.drewN nq).cell? ⟨bb, off + i * 2, none⟩ = some (.int .i64 p) := c1
            have c2d : (w4.drewN nq).cell? ⟨bb, off + i * 2 + 1, none⟩ = some (.int .i64 q) := c2
            have hownd : (w4.drewN nq).ownsRow w3.heap.size 32 2 u8 out.length (flat out) := hown
            have bd : Below w3.heap.size w3 (w4.drewN nq) := below_drewN b4 nq
            have hpc := Lib.hid (pieces_set out l_a i p q (p) hlt HSP.out (by omega) (by omega) HSET.out)
            generalize w4.drewN nq = wd at *
            go_region_law (refine step_append_lies _ rfl (.tmp 56) (.tmp 75) 22 rfl w3.heap.size 32 i0 (.agg #[.int .i64 0, .int .i64 0]) 2 16 Tryd.underlying22 hi hz0' hz1' hz2 rfl (by decide) _ _ _ rfl (hownd.drew.alloc _) ⟨wd.heap.size, 0, none⟩ 3 3 [.int .i64 p, .int .i64 q, .int .i64 p, .int .i64 p, .int .i64 p, .int .i64 q] rfl rfl (cells_list_new _ _ _) (by simp [Value.oneCell']) (by decide) (by unfold maxLen; omega) (by omega) (by have := bd.size; simp; omega) _ rfl ?_; intro g cap wx hown' hgrow hg1 hg2)
            all_goals
              have bx : Below w3.heap.size w3 wx := (bd.drew.alloc (by have := bd.size; simp; omega) _).grown hgrow (by have := bd.size; simp; omega) (own_from hownd)
              go_wp2
              go_roundw
              case rel => exact ⟨i, _, out ++ [(p, q), (p, p), (p, q)], by omega, rfl, by omega, by simpa [flat_append, flat] using hown', by have := HOL.out; simp; omega, hpc.out, bx⟩
              case measure => first | (simp [intOf]; done) | (simp [intOf]; omega)
      case neg =>
        by_cases m1 : q < p
        case pos =>
          have m2 : ¬ p < q := by omega
          go_wp2
          go_quiet (fail)
          go_wp2_with fail
          have c1d : (w4.drewN nq).cell? ⟨bb, off + i * 2, none⟩ = some (.int .i64 p) := c1
          have c2d : (w4.drewN nq).cell? ⟨bb, off + i * 2 + 1, none⟩ = some (.int .i64 q) := c2
          have hownd : (w4.drewN nq).ownsRow w3.heap.size 32 2 u8 out.length (flat out) := hown
          have bd : Below w3.heap.size w3 (w4.drewN nq) := below_drewN b4 nq
          have hpc := Lib.hid (pieces_set out l_a i p q (p) hlt HSP.out (by omega) (by omega) HSET.out)
          generalize w4.drewN nq = wd at *
          go_region_law (refine step_append_lies _ rfl (.tmp 56) (.tmp 75) 22 rfl w3.heap.size 32 i0 (.agg #[.int .i64 0, .int .i64 0]) 2 16 Tryd.underlying22 hi hz0' hz1' hz2 rfl (by decide) _ _ _ rfl (hownd.drew.alloc _) ⟨wd.heap.size, 0, none⟩ 3 3 [.int .i64 p, .int .i64 q, .int .i64 p, .int .i64 p, .int .i64 p, .int .i64 q] rfl rfl (cells_list_new _ _ _) (by simp [Value.oneCell']) (by decide) (by unfold maxLen; omega) (by omega) (by have := bd.size; simp; omega) _ rfl ?_; intro g cap wx hown' hgrow hg1 hg2)
          all_goals
            have bx : Below w3.heap.size w3 wx := (bd.drew.alloc (by have := bd.size; simp; omega) _).grown hgrow (by have := bd.size; simp; omega) (own_from hownd)
            go_wp2
            go_roundw
            case rel => exact ⟨i, _, out ++ [(p, q), (p, p), (p, q)], by omega, rfl, by omega, by simpa [flat_append, flat] using hown', by have := HOL.out; simp; omega, hpc.out, bx⟩
            case measure => first | (simp [intOf]; done) | (simp [intOf]; omega)
        case neg =>
          go_wp2
          go_quiet (fail)
          go_wp2_with fail
          have c1d : (w4.drewN nq).cell? ⟨bb, off + i * 2, none⟩ = some (.int .i64 p) := c1
          have c2d : (w4.drewN nq).cell? ⟨bb, off + i * 2 + 1, none⟩ = some (.int .i64 q) := c2
          have hownd : (w4.drewN nq).ownsRow w3.heap.size 32 2 u8 out.length (flat out) := hown
          have bd : Below w3.heap.size w3 (w4.drewN nq) := below_drewN b4 nq
          have hpc := Lib.hid (pieces_set out l_a i p q (p) hlt HSP.out (by omega) (by omega) HSET.out)
          generalize w4.drewN nq = wd at *
          go_region_law (refine step_append_lies _ rfl (.tmp 56) (.tmp 75) 22 rfl w3.heap.size 32 i0 (.agg #[.int .i64 0, .int .i64 0]) 2 16 Tryd.underlying22 hi hz0' hz1' hz2 rfl (by decide) _ _ _ rfl (hownd.drew.alloc _) ⟨wd.heap.size, 0, none⟩ 3 3 [.int .i64 p, .int .i64 q, .int .i64 p, .int .i64 p, .int .i64 p, .int .i64 q] rfl rfl (cells_list_new _ _ _) (by simp [Value.oneCell']) (by decide) (by unfold maxLen; omega) (by omega) (by have := bd.size; simp; omega) _ rfl ?_; intro g cap wx hown' hgrow hg1 hg2)
          all_goals
            have bx : Below w3.heap.size w3 wx := (bd.drew.alloc (by have := bd.size; simp; omega) _).grown hgrow (by have := bd.size; simp; omega) (own_from hownd)
            go_wp2
            go_roundw
            case rel => exact ⟨i, _, out ++ [(p, q), (p, p), (p, q)], by omega, rfl, by omega, by simpa [flat_append, flat] using hown', by have := HOL.out; simp; omega, hpc.out, bx⟩
            case measure => first | (simp [intOf]; done) | (simp [intOf]; omega)
end Go.Proofs.YtcbopckgnbameaaDoor
