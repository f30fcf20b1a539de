/- The law LatticeOrder. -/
import Derived.Test.YtkjlflmcojmfgaaDoorWo
import Derived.ChangeKeysEq
namespace Go.Proofs.YtkjlflmcojmfgaaDoor
open Go.RowKit
theorem run_eq_pair (p q p' q' : Int) (w : World) : (binOp .eql 39 (.agg #[.int .i64 p, .int .i64 q]) (.agg #[.int .i64 p', .int .i64 q'])).run Tryd.prog w = .ok (.bool (p == p' && q == q')) w := by
  have h3 : Tryd.prog.cellsOf 3 = 1 := by kernel_rfl
  obtain ⟨j, hj⟩ : ∃ i, Tryd.prog.info? 3 = some i := by
    have : (Tryd.prog.info? 3).isSome = true := by kernel_rfl
    exact Option.isSome_iff_exists.1 this
  rw [run_eql_struct, run_equalIn_array w 9999 _ _ Tryd.underlying39 hj, h3]
  simp [List.range_succ, Op.eqItems, go_sem]
  by_cases h : p = p' <;> by_cases h' : q = q' <;> simp [h, h']
theorem run_guard_pair (x y : Operand) (u v : Array Value) (w : World) : (eqGuard .eql 39 x y (.agg u) (.agg v)).run Tryd.prog w = .ok () w := run_eqGuard_agg w .eql 39 x y u v (by kernel_rfl)
def covTo (L : Ltc) (a b k : Nat) : Bool := (L.covers.take k).any fun c => decide (c = ((a : Int), (b : Int)))
theorem covTo_succ {L : Ltc} {a b k : Nat} (h : k < L.covers.length) : covTo L a b (k + 1) = (covTo L a b k || decide (L.covers[k] = ((a : Int), (b : Int)))) := by
  unfold covTo
  rw [List.take_succ_eq_append_getElem h, List.any_append]; simp
theorem covTo_all {L : Ltc} {a b : Nat} : covTo L a b L.covers.length = true ↔ ((a : Int), (b : Int)) ∈ L.covers := by
  unfold covTo
  rw [List.take_length, List.any_eq_true]
  constructor
  · rintro ⟨x, hx, e⟩; rw [← of_decide_eq_true e]; exact hx
  · intro h; exact ⟨_, h, decide_eq_true rfl⟩
def btw (o : Rl2) (a b c : Nat) : Bool := (List.range c).any fun x => decide (x ≠ a) && decide (x ≠ b) && o a x && o x b
theorem btw_succ (o : Rl2) (a b c : Nat) : btw o a b (c + 1) = (btw o a b c || (decide (c ≠ a) && decide (c ≠ b) && o a c && o c b)) := by
  unfold btw
  rw [List.range_succ, List.any_append]; simp
theorem btw_all {o : Rl2} {a b n : Nat} : btw o a b n = true ↔ ∃ c, c < n ∧ c ≠ a ∧ c ≠ b ∧ o a c = true ∧ o c b = true := by
  unfold btw
  rw [List.any_eq_true]
  constructor
  · rintro ⟨c, hc, e⟩
    simp at e
    exact ⟨c, List.mem_range.1 hc, e.1.1.1, e.1.1.2, e.1.2, e.2⟩
  · rintro ⟨c, h1, h2, h3, h4, h5⟩
    exact ⟨c, List.mem_range.2 h1, by simp [h2, h3, h4, h5]⟩
theorem order_key {L : Ltc} (h : Lat L.elems.length (ordL L)) (hr : InRange L.elems.length L.covers) {a b : Nat} (hne : a ≠ b) : ordL L a b = (covTo L a b L.covers.length || btw (ordL L) a b L.elems.length) := by
  rw [Bool.eq_iff_iff, Bool.or_eq_true, covTo_all, btw_all]
  constructor
  · intro ho
    rcases clo_split hr ho with e | e | e
    · exact absurd e hne
    · exact .inl e
    · exact .inr e
  · rintro (e | ⟨c, _, _, _, h1, h2⟩)
    · exact clo_cover e
    · exact h.trans h1 h2
set_option maxHeartbeats 16000000 in
set_option maxRecDepth 100000 in
theorem law4_any (v : Value) (L : Ltc) (w : World) (h : IsLtc w v L) (hK : KeysAt w 0) : Calls Tryd.prog 4 #[v] w fun e w' => e = .returned (.bool true) ∧ Below w.heap.size w w' := by
  have HCV : Hid (∃ ca cc, ∃ ev, v = .agg #[.string L.name.1, ev, .slice ca L.covers.length cc, .int .i64 L.at_] ∧ IsCovers w (.slice ca L.covers.length cc) L.covers) := by
    obtain ⟨ea, ec, ca, cc, e, -, hc, -⟩ := h.shape
    exact Lib.hid ⟨ca, cc, _, e, hc⟩
  have h0 := h
  obtain ⟨ea, ec, ca, cc, rfl, -, -, m1, m2, m3⟩ := h.shape
  have g0 := heap_alloc_new w (.cells #[.string L.name.1, .slice ea L.elems.length ec, .slice ca L.covers.length cc, .int .i64 L.at_] 25)
  have b0 := below_new w (.cells #[.string L.name.1, .slice ea L.elems.length ec, .slice ca L.covers.length cc, .int .i64 L.at_] 25)
  obtain ⟨wb, hwb⟩ : ∃ x : World, x = w.alloc (.cells #[.string L.name.1, .slice ea L.elems.length ec, .slice ca L.covers.length cc, .int .i64 L.at_] 25) := ⟨_, rfl⟩
  rw [← hwb] at g0 b0
  obtain ⟨y0, y1, y2, y3⟩ := Box4.of g0
  go_enter Tryd.func4, Tryd.ntmps4
  go_wp2_with fail
  rw [← hwb]
  clear hwb y0 y1 y2 y3
  refine (head_any _ (hK.keep (keeps_below b0))).mono ?_
  rintro e w1 ⟨rfl, bN⟩
  replace g0 := block_keep g0 bN
  replace b0 := below_trans b0 bN
  clear bN
  obtain ⟨y0, y1, y2, y3⟩ := Box4.of g0
  go_wp2_with fail
  refine (Small_any _ L _ (h0.keep (keeps_below b0))).mono ?_
  rintro e w2 ⟨rfl, bN⟩
  replace g0 := block_keep g0 bN
  replace b0 := below_trans b0 bN
  clear bN y0 y1 y2 y3
  cases hsm : smallL L
  · go_wp2
    go_ret
    exact ⟨rfl, b0⟩
  clear hsm
  obtain ⟨y0, y1, y2, y3⟩ := Box4.of g0
  go_wp2_with fail
  refine (Check_any _ L _ (h0.keep (keeps_below b0)) (hK.keep (keeps_below b0))).mono ?_
  rintro e wB ⟨rfl, bN⟩
  replace g0 := block_keep g0 bN
  replace b0 := below_trans b0 bN
  clear bN y0 y1 y2 y3
  by_cases hck : checkL L = 0
  case neg =>
    have hq : (checkL L != 0) = true := by simpa using hck
    generalize checkL L = c at *
    go_wp2
    go_ret
    exact ⟨rfl, b0⟩
  have HCK := Lib.hid hck
  rw [hck]
  have hn8 := (args_parts (check_zero hck).1).1
  have hn1 := (args_parts (check_zero hck).1).2.1
  have HRG := Lib.hid (args_parts (check_zero hck).1).2.2.2
  have HLAT := Lib.hid (lat_ok hck)
  clear hck
  have bR := Below.refl wB.heap.size wB
  have hcv : IsCovers wB (.slice ca L.covers.length cc) L.covers := by
    obtain ⟨ca', cc', ev', e, hc⟩ := HCV.out
    simp at e
    obtain ⟨-, ⟨rfl, rfl⟩⟩ := e
    exact hc.keep (keeps_below b0)
  clear HCV
  obtain ⟨y0, y1, y2, y3⟩ := Box4.of g0
  go_wp2
  clear y0 y1 y2 y3 bR
  go_loopw [5] (fun i wr => ∃ a : Nat, a ≤ L.elems.length ∧ i = .int .i64 a ∧ Below wB.heap.size wB wr) (fun i _ => L.elems.length - (intOf i).toNat)
  case atStart => exact ⟨0, Nat.zero_le _, rfl, Below.refl _ _⟩
  case round =>
    obtain ⟨a, ha, rfl, bR⟩ := hrel
    obtain ⟨woa, rfl⟩ : ∃ wo : World, wo = wr := ⟨_, rfl⟩
    by_cases hlta : a < L.elems.length
    · have hda : decide (a < L.elems.length) = true := decide_eq_true hlta
      go_wp2
      go_loopw [6] (fun i wr => ∃ b : Nat, b ≤ L.elems.length ∧ i = .int .i64 b ∧ Below wB.heap.size wB wr) (fun i _ => L.elems.length - (intOf i).toNat)
      case atStart => exact ⟨0, Nat.zero_le _, rfl, bR⟩
      case round =>
        obtain ⟨b, hb, rfl, bR⟩ := hrel
        obtain ⟨wob, rfl⟩ : ∃ wo : World, wo = wr := ⟨_, rfl⟩
        by_cases hltb : b < L.elems.length
        · have hdb : decide (b < L.elems.length) = true := decide_eq_true hltb
          obtain ⟨y0, y1, y2, y3⟩ := Box4.of (block_keep g0 bR)
          have hcvo := hcv.keep (keeps_below bR)
          go_wp2
          go_loop [8, 7] (fun i u => ∃ (k : Nat) (cv : Bool), k ≤ L.covers.length ∧ i = .int .i64 k ∧ u = .bool cv ∧ Hid (covTo L a b k = cv)) (fun i _ => L.covers.length - (intOf i).toNat)
          case atStart => exact ⟨0, _, Nat.zero_le _, rfl, rfl, Lib.hid rfl⟩
          case round =>
            obtain ⟨k, cv, hk, rfl, rfl, HC⟩ := hrel
            by_cases hltk : k < L.covers.length
            · have hdk : decide (k < L.covers.length) = true := decide_eq_true hltk
              have HS := Lib.hid (covTo_succ (a := a) (b := b) hltk)
              obtain ⟨b1, of1, hce, hc0, hc1⟩ := hcvo.at_ (List.getElem?_eq_getElem hltk)
              subst hce
              have hkI : (k : Int) < (L.covers.length : Int) := by omega
              have hk0 : (0 : Int) ≤ (k : Int) := by omega
              generalize L.covers[k] = x at *
              obtain ⟨x1, x2⟩ := x
              dsimp only at hc0 hc1
              have HE := Lib.hid (show decide ((x1, x2) = ((a : Int), (b : Int))) = (x1 == (a : Int) && x2 == (b : Int)) by
                rw [Bool.eq_iff_iff]; simp)
              have hrun := run_eq_pair x1 x2 a b
              have hgd := fun x y u v w => run_guard_pair x y u v w
              cases cv
              · go_wp2
                go_round
                case rel => exact ⟨k + 1, _, by omega, by go_num, rfl, Lib.hid (by rw [HS.out, HC.out, HE.out]; simp)⟩
                case measure => simp [intOf]; omega
              · go_wp2
                go_round
                case rel => exact ⟨k + 1, true, by omega, by go_num, rfl, Lib.hid (by rw [HS.out, HC.out]; rfl)⟩
                case measure => simp [intOf]; omega
            · have e : k = L.covers.length := by omega
              subst e
              have hdk : decide (L.covers.length < L.covers.length) = false := decide_eq_false hltk
              clear hcvo
              go_wp2
              clear y0 y1 y2 y3
              go_loopw [10, 9] (fun i u wr => ∃ (c : Nat) (bt : Bool), c ≤ L.elems.length ∧ i = .int .i64 c ∧ u = .bool bt ∧ Hid (btw (ordL L) a b c = bt) ∧ Below wB.heap.size wB wr) (fun i _ _ => L.elems.length - (intOf i).toNat)
              case atStart => exact ⟨0, _, Nat.zero_le _, rfl, rfl, Lib.hid rfl, bR⟩
              case round =>
                clear bR
                obtain ⟨c, bt, hcl, rfl, rfl, HB, bR⟩ := hrel
                obtain ⟨woc, rfl⟩ : ∃ wo : World, wo = wr := ⟨_, rfl⟩
                by_cases hltc : c < L.elems.length
                · have hdc : decide (c < L.elems.length) = true := decide_eq_true hltc
                  have HS := Lib.hid (btw_succ (ordL L) a b c)
                  cases bt
                  · skip
                    by_cases hx : c = a
                    · have HNca := Lib.hid hx
                      have qca : ((c : Int) != (a : Int)) = false := by simp [hx]
                      have rca : (c != a) = false := by simp [hx]
                      have uca : ((c : Int) == (a : Int)) = true := by simp [hx]
                      have vca : (c == a) = true := by simp [hx]
                      clear hx
                      cases hx : ordL L a b
                      · have HLab := Lib.hid hx
                        clear hx
                        obtain ⟨y0, y1, y2, y3⟩ := Box4.of (block_keep g0 bR)
                        go_wp2_with fail
                        refine (leq_at HCK (h0.keep (keeps_below (below_trans b0 bR))) (hK.keep (keeps_below (below_trans b0 bR))) (a := a) (b := b) (by omega) (by omega)).mono ?_
                        rintro e wx11 ⟨rfl, bN⟩
                        rw [HLab.out]
                        replace bR := below_trans bR bN
                        clear bN y0 y1 y2 y3
                        go_wp2
                        go_roundw
                        case rel => exact ⟨c + 1, false, by omega, by go_num, rfl, Lib.hid (by rw [HS.out, HB.out, decide_eq_false (fun h => h HNca.out : ¬ c ≠ a)]; simp), bR⟩
                        case measure => simp [intOf]; omega
                      · have HLab := Lib.hid hx
                        clear hx
                        obtain ⟨y0, y1, y2, y3⟩ := Box4.of (block_keep g0 bR)
                        go_wp2_with fail
                        refine (leq_at HCK (h0.keep (keeps_below (below_trans b0 bR))) (hK.keep (keeps_below (below_trans b0 bR))) (a := a) (b := b) (by omega) (by omega)).mono ?_
                        rintro e wx12 ⟨rfl, bN⟩
                        rw [HLab.out]
                        replace bR := below_trans bR bN
                        clear bN y0 y1 y2 y3
                        cases hx : ordL L b c
                        · have HLbc := Lib.hid hx
                          clear hx
                          obtain ⟨y0, y1, y2, y3⟩ := Box4.of (block_keep g0 bR)
                          go_wp2_with fail
                          refine (leq_at HCK (h0.keep (keeps_below (below_trans b0 bR))) (hK.keep (keeps_below (below_trans b0 bR))) (a := b) (b := c) (by omega) (by omega)).mono ?_
                          rintro e wx13 ⟨rfl, bN⟩
                          rw [HLbc.out]
                          replace bR := below_trans bR bN
                          clear bN y0 y1 y2 y3
                          go_wp2
                          go_roundw
                          case rel => exact ⟨c + 1, false, by omega, by go_num, rfl, Lib.hid (by rw [HS.out, HB.out, decide_eq_false (fun h => h HNca.out : ¬ c ≠ a)]; simp), bR⟩
                          case measure => simp [intOf]; omega
                        · have HLbc := Lib.hid hx
                          clear hx
                          obtain ⟨y0, y1, y2, y3⟩ := Box4.of (block_keep g0 bR)
                          go_wp2_with fail
                          refine (leq_at HCK (h0.keep (keeps_below (below_trans b0 bR))) (hK.keep (keeps_below (below_trans b0 bR))) (a := b) (b := c) (by omega) (by omega)).mono ?_
                          rintro e wx14 ⟨rfl, bN⟩
                          rw [HLbc.out]
                          replace bR := below_trans bR bN
                          clear bN y0 y1 y2 y3
                          cases hx : ordL L a c
                          · have HLac := Lib.hid hx
                            clear hx
                            obtain ⟨y0, y1, y2, y3⟩ := Box4.of (block_keep g0 bR)
                            go_wp2_with fail
                            refine (leq_at HCK (h0.keep (keeps_below (below_trans b0 bR))) (hK.keep (keeps_below (below_trans b0 bR))) (a := a) (b := c) (by omega) (by omega)).mono ?_
                            rintro e wx15 ⟨rfl, bN⟩
                            rw [HLac.out]
                            replace bR := below_trans bR bN
                            clear bN y0 y1 y2 y3
                            exact absurd (HLAT.out.trans HLab.out HLbc.out) (by rw [HLac.out]; decide)
                          · have HLac := Lib.hid hx
                            clear hx
                            obtain ⟨y0, y1, y2, y3⟩ := Box4.of (block_keep g0 bR)
                            go_wp2_with fail
                            refine (leq_at HCK (h0.keep (keeps_below (below_trans b0 bR))) (hK.keep (keeps_below (below_trans b0 bR))) (a := a) (b := c) (by omega) (by omega)).mono ?_
                            rintro e wx16 ⟨rfl, bN⟩
                            rw [HLac.out]
                            replace bR := below_trans bR bN
                            clear bN y0 y1 y2 y3
                            go_wp2
                            go_roundw
                            case rel => exact ⟨c + 1, false, by omega, by go_num, rfl, Lib.hid (by rw [HS.out, HB.out, decide_eq_false (fun h => h HNca.out : ¬ c ≠ a)]; simp), bR⟩
                            case measure => simp [intOf]; omega
                    · have HNca := Lib.hid hx
                      have qca : ((c : Int) != (a : Int)) = true := by simp; omega
                      have rca : (c != a) = true := by simp [hx]
                      have uca : ((c : Int) == (a : Int)) = false := by simp; omega
                      have vca : (c == a) = false := by simp [hx]
                      clear hx
                      by_cases hx : c = b
                      · have HNcb := Lib.hid hx
                        have qcb : ((c : Int) != (b : Int)) = false := by simp [hx]
                        have rcb : (c != b) = false := by simp [hx]
                        have ucb : ((c : Int) == (b : Int)) = true := by simp [hx]
                        have vcb : (c == b) = true := by simp [hx]
                        clear hx
                        cases hx : ordL L a b
                        · have HLab := Lib.hid hx
                          clear hx
                          obtain ⟨y0, y1, y2, y3⟩ := Box4.of (block_keep g0 bR)
                          go_wp2_with fail
                          refine (leq_at HCK (h0.keep (keeps_below (below_trans b0 bR))) (hK.keep (keeps_below (below_trans b0 bR))) (a := a) (b := b) (by omega) (by omega)).mono ?_
                          rintro e wx17 ⟨rfl, bN⟩
                          rw [HLab.out]
                          replace bR := below_trans bR bN
                          clear bN y0 y1 y2 y3
                          go_wp2
                          go_roundw
                          case rel => exact ⟨c + 1, false, by omega, by go_num, rfl, Lib.hid (by rw [HS.out, HB.out, decide_eq_false (fun h => h HNcb.out : ¬ c ≠ b)]; simp), bR⟩
                          case measure => simp [intOf]; omega
                        · have HLab := Lib.hid hx
                          clear hx
                          obtain ⟨y0, y1, y2, y3⟩ := Box4.of (block_keep g0 bR)
                          go_wp2_with fail
                          refine (leq_at HCK (h0.keep (keeps_below (below_trans b0 bR))) (hK.keep (keeps_below (below_trans b0 bR))) (a := a) (b := b) (by omega) (by omega)).mono ?_
                          rintro e wx18 ⟨rfl, bN⟩
                          rw [HLab.out]
                          replace bR := below_trans bR bN
                          clear bN y0 y1 y2 y3
                          cases hx : ordL L b c
                          · have HLbc := Lib.hid hx
                            clear hx
                            obtain ⟨y0, y1, y2, y3⟩ := Box4.of (block_keep g0 bR)
                            go_wp2_with fail
                            refine (leq_at HCK (h0.keep (keeps_below (below_trans b0 bR))) (hK.keep (keeps_below (below_trans b0 bR))) (a := b) (b := c) (by omega) (by omega)).mono ?_
                            rintro e wx19 ⟨rfl, bN⟩
                            rw [HLbc.out]
                            replace bR := below_trans bR bN
                            clear bN y0 y1 y2 y3
                            go_wp2
                            go_roundw
                            case rel => exact ⟨c + 1, false, by omega, by go_num, rfl, Lib.hid (by rw [HS.out, HB.out, decide_eq_false (fun h => h HNcb.out : ¬ c ≠ b)]; simp), bR⟩
                            case measure => simp [intOf]; omega
                          · have HLbc := Lib.hid hx
                            clear hx
                            obtain ⟨y0, y1, y2, y3⟩ := Box4.of (block_keep g0 bR)
                            go_wp2_with fail
                            refine (leq_at HCK (h0.keep (keeps_below (below_trans b0 bR))) (hK.keep (keeps_below (below_trans b0 bR))) (a := b) (b := c) (by omega) (by omega)).mono ?_
                            rintro e wx20 ⟨rfl, bN⟩
                            rw [HLbc.out]
                            replace bR := below_trans bR bN
                            clear bN y0 y1 y2 y3
                            cases hx : ordL L a c
                            · have HLac := Lib.hid hx
                              clear hx
                              obtain ⟨y0, y1, y2, y3⟩ := Box4.of (block_keep g0 bR)
                              go_wp2_with fail
                              refine (leq_at HCK (h0.keep (keeps_below (below_trans b0 bR))) (hK.keep (keeps_below (below_trans b0 bR))) (a := a) (b := c) (by omega) (by omega)).mono ?_
                              rintro e wx21 ⟨rfl, bN⟩
                              rw [HLac.out]
                              replace bR := below_trans bR bN
                              clear bN y0 y1 y2 y3
                              exact absurd (HLAT.out.trans HLab.out HLbc.out) (by rw [HLac.out]; decide)
                            · have HLac := Lib.hid hx
                              clear hx
                              obtain ⟨y0, y1, y2, y3⟩ := Box4.of (block_keep g0 bR)
                              go_wp2_with fail
                              refine (leq_at HCK (h0.keep (keeps_below (below_trans b0 bR))) (hK.keep (keeps_below (below_trans b0 bR))) (a := a) (b := c) (by omega) (by omega)).mono ?_
                              rintro e wx22 ⟨rfl, bN⟩
                              rw [HLac.out]
                              replace bR := below_trans bR bN
                              clear bN y0 y1 y2 y3
                              go_wp2
                              go_roundw
                              case rel => exact ⟨c + 1, false, by omega, by go_num, rfl, Lib.hid (by rw [HS.out, HB.out, decide_eq_false (fun h => h HNcb.out : ¬ c ≠ b)]; simp), bR⟩
                              case measure => simp [intOf]; omega
                      · have HNcb := Lib.hid hx
                        have qcb : ((c : Int) != (b : Int)) = true := by simp; omega
                        have rcb : (c != b) = true := by simp [hx]
                        have ucb : ((c : Int) == (b : Int)) = false := by simp; omega
                        have vcb : (c == b) = false := by simp [hx]
                        clear hx
                        cases hx : ordL L a c
                        · have HLac := Lib.hid hx
                          clear hx
                          obtain ⟨y0, y1, y2, y3⟩ := Box4.of (block_keep g0 bR)
                          go_wp2_with fail
                          refine (leq_at HCK (h0.keep (keeps_below (below_trans b0 bR))) (hK.keep (keeps_below (below_trans b0 bR))) (a := a) (b := c) (by omega) (by omega)).mono ?_
                          rintro e wx23 ⟨rfl, bN⟩
                          rw [HLac.out]
                          replace bR := below_trans bR bN
                          clear bN y0 y1 y2 y3
                          cases hx : ordL L a b
                          · have HLab := Lib.hid hx
                            clear hx
                            obtain ⟨y0, y1, y2, y3⟩ := Box4.of (block_keep g0 bR)
                            go_wp2_with fail
                            refine (leq_at HCK (h0.keep (keeps_below (below_trans b0 bR))) (hK.keep (keeps_below (below_trans b0 bR))) (a := a) (b := b) (by omega) (by omega)).mono ?_
                            rintro e wx24 ⟨rfl, bN⟩
                            rw [HLab.out]
                            replace bR := below_trans bR bN
                            clear bN y0 y1 y2 y3
                            go_wp2
                            go_roundw
                            case rel => exact ⟨c + 1, false, by omega, by go_num, rfl, Lib.hid (by rw [HS.out, HB.out, HLac.out]; simp), bR⟩
                            case measure => simp [intOf]; omega
                          · have HLab := Lib.hid hx
                            clear hx
                            obtain ⟨y0, y1, y2, y3⟩ := Box4.of (block_keep g0 bR)
                            go_wp2_with fail
                            refine (leq_at HCK (h0.keep (keeps_below (below_trans b0 bR))) (hK.keep (keeps_below (below_trans b0 bR))) (a := a) (b := b) (by omega) (by omega)).mono ?_
                            rintro e wx25 ⟨rfl, bN⟩
                            rw [HLab.out]
                            replace bR := below_trans bR bN
                            clear bN y0 y1 y2 y3
                            cases hx : ordL L b c
                            · have HLbc := Lib.hid hx
                              clear hx
                              obtain ⟨y0, y1, y2, y3⟩ := Box4.of (block_keep g0 bR)
                              go_wp2_with fail
                              refine (leq_at HCK (h0.keep (keeps_below (below_trans b0 bR))) (hK.keep (keeps_below (below_trans b0 bR))) (a := b) (b := c) (by omega) (by omega)).mono ?_
                              rintro e wx26 ⟨rfl, bN⟩
                              rw [HLbc.out]
                              replace bR := below_trans bR bN
                              clear bN y0 y1 y2 y3
                              go_wp2
                              go_roundw
                              case rel => exact ⟨c + 1, false, by omega, by go_num, rfl, Lib.hid (by rw [HS.out, HB.out, HLac.out]; simp), bR⟩
                              case measure => simp [intOf]; omega
                            · have HLbc := Lib.hid hx
                              clear hx
                              obtain ⟨y0, y1, y2, y3⟩ := Box4.of (block_keep g0 bR)
                              go_wp2_with fail
                              refine (leq_at HCK (h0.keep (keeps_below (below_trans b0 bR))) (hK.keep (keeps_below (below_trans b0 bR))) (a := b) (b := c) (by omega) (by omega)).mono ?_
                              rintro e wx27 ⟨rfl, bN⟩
                              rw [HLbc.out]
                              replace bR := below_trans bR bN
                              clear bN y0 y1 y2 y3
                              obtain ⟨y0, y1, y2, y3⟩ := Box4.of (block_keep g0 bR)
                              go_wp2_with fail
                              refine (leq_at HCK (h0.keep (keeps_below (below_trans b0 bR))) (hK.keep (keeps_below (below_trans b0 bR))) (a := a) (b := c) (by omega) (by omega)).mono ?_
                              rintro e wx28 ⟨rfl, bN⟩
                              rw [HLac.out]
                              replace bR := below_trans bR bN
                              clear bN y0 y1 y2 y3
                              exact absurd (HLAT.out.trans HLab.out HLbc.out) (by rw [HLac.out]; decide)
                        · have HLac := Lib.hid hx
                          clear hx
                          obtain ⟨y0, y1, y2, y3⟩ := Box4.of (block_keep g0 bR)
                          go_wp2_with fail
                          refine (leq_at HCK (h0.keep (keeps_below (below_trans b0 bR))) (hK.keep (keeps_below (below_trans b0 bR))) (a := a) (b := c) (by omega) (by omega)).mono ?_
                          rintro e wx29 ⟨rfl, bN⟩
                          rw [HLac.out]
                          replace bR := below_trans bR bN
                          clear bN y0 y1 y2 y3
                          cases hx : ordL L c b
                          · have HLcb := Lib.hid hx
                            clear hx
                            obtain ⟨y0, y1, y2, y3⟩ := Box4.of (block_keep g0 bR)
                            go_wp2_with fail
                            refine (leq_at HCK (h0.keep (keeps_below (below_trans b0 bR))) (hK.keep (keeps_below (below_trans b0 bR))) (a := c) (b := b) (by omega) (by omega)).mono ?_
                            rintro e wx30 ⟨rfl, bN⟩
                            rw [HLcb.out]
                            replace bR := below_trans bR bN
                            clear bN y0 y1 y2 y3
                            cases hx : ordL L a b
                            · have HLab := Lib.hid hx
                              clear hx
                              obtain ⟨y0, y1, y2, y3⟩ := Box4.of (block_keep g0 bR)
                              go_wp2_with fail
                              refine (leq_at HCK (h0.keep (keeps_below (below_trans b0 bR))) (hK.keep (keeps_below (below_trans b0 bR))) (a := a) (b := b) (by omega) (by omega)).mono ?_
                              rintro e wx31 ⟨rfl, bN⟩
                              rw [HLab.out]
                              replace bR := below_trans bR bN
                              clear bN y0 y1 y2 y3
                              go_wp2
                              go_roundw
                              case rel => exact ⟨c + 1, false, by omega, by go_num, rfl, Lib.hid (by rw [HS.out, HB.out, HLcb.out]; simp), bR⟩
                              case measure => simp [intOf]; omega
                            · have HLab := Lib.hid hx
                              clear hx
                              obtain ⟨y0, y1, y2, y3⟩ := Box4.of (block_keep g0 bR)
                              go_wp2_with fail
                              refine (leq_at HCK (h0.keep (keeps_below (below_trans b0 bR))) (hK.keep (keeps_below (below_trans b0 bR))) (a := a) (b := b) (by omega) (by omega)).mono ?_
                              rintro e wx32 ⟨rfl, bN⟩
                              rw [HLab.out]
                              replace bR := below_trans bR bN
                              clear bN y0 y1 y2 y3
                              cases hx : ordL L b c
                              · have HLbc := Lib.hid hx
                                clear hx
                                obtain ⟨y0, y1, y2, y3⟩ := Box4.of (block_keep g0 bR)
                                go_wp2_with fail
                                refine (leq_at HCK (h0.keep (keeps_below (below_trans b0 bR))) (hK.keep (keeps_below (below_trans b0 bR))) (a := b) (b := c) (by omega) (by omega)).mono ?_
                                rintro e wx33 ⟨rfl, bN⟩
                                rw [HLbc.out]
                                replace bR := below_trans bR bN
                                clear bN y0 y1 y2 y3
                                go_wp2
                                go_roundw
                                case rel => exact ⟨c + 1, false, by omega, by go_num, rfl, Lib.hid (by rw [HS.out, HB.out, HLcb.out]; simp), bR⟩
                                case measure => simp [intOf]; omega
                              · have HLbc := Lib.hid hx
                                clear hx
                                obtain ⟨y0, y1, y2, y3⟩ := Box4.of (block_keep g0 bR)
                                go_wp2_with fail
                                refine (leq_at HCK (h0.keep (keeps_below (below_trans b0 bR))) (hK.keep (keeps_below (below_trans b0 bR))) (a := b) (b := c) (by omega) (by omega)).mono ?_
                                rintro e wx34 ⟨rfl, bN⟩
                                rw [HLbc.out]
                                replace bR := below_trans bR bN
                                clear bN y0 y1 y2 y3
                                obtain ⟨y0, y1, y2, y3⟩ := Box4.of (block_keep g0 bR)
                                go_wp2_with fail
                                refine (leq_at HCK (h0.keep (keeps_below (below_trans b0 bR))) (hK.keep (keeps_below (below_trans b0 bR))) (a := a) (b := c) (by omega) (by omega)).mono ?_
                                rintro e wx35 ⟨rfl, bN⟩
                                rw [HLac.out]
                                replace bR := below_trans bR bN
                                clear bN y0 y1 y2 y3
                                go_wp2
                                go_roundw
                                case rel => exact ⟨c + 1, false, by omega, by go_num, rfl, Lib.hid (by rw [HS.out, HB.out, HLcb.out]; simp), bR⟩
                                case measure => simp [intOf]; omega
                          · have HLcb := Lib.hid hx
                            clear hx
                            obtain ⟨y0, y1, y2, y3⟩ := Box4.of (block_keep g0 bR)
                            go_wp2_with fail
                            refine (leq_at HCK (h0.keep (keeps_below (below_trans b0 bR))) (hK.keep (keeps_below (below_trans b0 bR))) (a := c) (b := b) (by omega) (by omega)).mono ?_
                            rintro e wx36 ⟨rfl, bN⟩
                            rw [HLcb.out]
                            replace bR := below_trans bR bN
                            clear bN y0 y1 y2 y3
                            cases hx : ordL L a b
                            · have HLab := Lib.hid hx
                              clear hx
                              obtain ⟨y0, y1, y2, y3⟩ := Box4.of (block_keep g0 bR)
                              go_wp2_with fail
                              refine (leq_at HCK (h0.keep (keeps_below (below_trans b0 bR))) (hK.keep (keeps_below (below_trans b0 bR))) (a := a) (b := b) (by omega) (by omega)).mono ?_
                              rintro e wx37 ⟨rfl, bN⟩
                              rw [HLab.out]
                              replace bR := below_trans bR bN
                              clear bN y0 y1 y2 y3
                              go_wp2
                              go_roundw
                              case rel => exact ⟨c + 1, true, by omega, by go_num, rfl, Lib.hid (by rw [HS.out, HB.out, HLac.out, HLcb.out, decide_eq_true HNca.out, decide_eq_true HNcb.out]; simp), bR⟩
                              case measure => simp [intOf]; omega
                            · have HLab := Lib.hid hx
                              clear hx
                              obtain ⟨y0, y1, y2, y3⟩ := Box4.of (block_keep g0 bR)
                              go_wp2_with fail
                              refine (leq_at HCK (h0.keep (keeps_below (below_trans b0 bR))) (hK.keep (keeps_below (below_trans b0 bR))) (a := a) (b := b) (by omega) (by omega)).mono ?_
                              rintro e wx38 ⟨rfl, bN⟩
                              rw [HLab.out]
                              replace bR := below_trans bR bN
                              clear bN y0 y1 y2 y3
                              cases hx : ordL L b c
                              · have HLbc := Lib.hid hx
                                clear hx
                                obtain ⟨y0, y1, y2, y3⟩ := Box4.of (block_keep g0 bR)
                                go_wp2_with fail
                                refine (leq_at HCK (h0.keep (keeps_below (below_trans b0 bR))) (hK.keep (keeps_below (below_trans b0 bR))) (a := b) (b := c) (by omega) (by omega)).mono ?_
                                rintro e wx39 ⟨rfl, bN⟩
                                rw [HLbc.out]
                                replace bR := below_trans bR bN
                                clear bN y0 y1 y2 y3
                                go_wp2
                                go_roundw
                                case rel => exact ⟨c + 1, true, by omega, by go_num, rfl, Lib.hid (by rw [HS.out, HB.out, HLac.out, HLcb.out, decide_eq_true HNca.out, decide_eq_true HNcb.out]; simp), bR⟩
                                case measure => simp [intOf]; omega
                              · have HLbc := Lib.hid hx
                                clear hx
                                obtain ⟨y0, y1, y2, y3⟩ := Box4.of (block_keep g0 bR)
                                go_wp2_with fail
                                refine (leq_at HCK (h0.keep (keeps_below (below_trans b0 bR))) (hK.keep (keeps_below (below_trans b0 bR))) (a := b) (b := c) (by omega) (by omega)).mono ?_
                                rintro e wx40 ⟨rfl, bN⟩
                                rw [HLbc.out]
                                replace bR := below_trans bR bN
                                clear bN y0 y1 y2 y3
                                obtain ⟨y0, y1, y2, y3⟩ := Box4.of (block_keep g0 bR)
                                go_wp2_with fail
                                refine (leq_at HCK (h0.keep (keeps_below (below_trans b0 bR))) (hK.keep (keeps_below (below_trans b0 bR))) (a := a) (b := c) (by omega) (by omega)).mono ?_
                                rintro e wx41 ⟨rfl, bN⟩
                                rw [HLac.out]
                                replace bR := below_trans bR bN
                                clear bN y0 y1 y2 y3
                                go_wp2
                                go_roundw
                                case rel => exact ⟨c + 1, true, by omega, by go_num, rfl, Lib.hid (by rw [HS.out, HB.out, HLac.out, HLcb.out, decide_eq_true HNca.out, decide_eq_true HNcb.out]; simp), bR⟩
                                case measure => simp [intOf]; omega
                  · skip
                    cases hx : ordL L a b
                    · have HLab := Lib.hid hx
                      clear hx
                      obtain ⟨y0, y1, y2, y3⟩ := Box4.of (block_keep g0 bR)
                      go_wp2_with fail
                      refine (leq_at HCK (h0.keep (keeps_below (below_trans b0 bR))) (hK.keep (keeps_below (below_trans b0 bR))) (a := a) (b := b) (by omega) (by omega)).mono ?_
                      rintro e wx42 ⟨rfl, bN⟩
                      rw [HLab.out]
                      replace bR := below_trans bR bN
                      clear bN y0 y1 y2 y3
                      go_wp2
                      go_roundw
                      case rel => exact ⟨c + 1, true, by omega, by go_num, rfl, Lib.hid (by rw [HS.out, HB.out]; rfl), bR⟩
                      case measure => simp [intOf]; omega
                    · have HLab := Lib.hid hx
                      clear hx
                      obtain ⟨y0, y1, y2, y3⟩ := Box4.of (block_keep g0 bR)
                      go_wp2_with fail
                      refine (leq_at HCK (h0.keep (keeps_below (below_trans b0 bR))) (hK.keep (keeps_below (below_trans b0 bR))) (a := a) (b := b) (by omega) (by omega)).mono ?_
                      rintro e wx43 ⟨rfl, bN⟩
                      rw [HLab.out]
                      replace bR := below_trans bR bN
                      clear bN y0 y1 y2 y3
                      cases hx : ordL L b c
                      · have HLbc := Lib.hid hx
                        clear hx
                        obtain ⟨y0, y1, y2, y3⟩ := Box4.of (block_keep g0 bR)
                        go_wp2_with fail
                        refine (leq_at HCK (h0.keep (keeps_below (below_trans b0 bR))) (hK.keep (keeps_below (below_trans b0 bR))) (a := b) (b := c) (by omega) (by omega)).mono ?_
                        rintro e wx44 ⟨rfl, bN⟩
                        rw [HLbc.out]
                        replace bR := below_trans bR bN
                        clear bN y0 y1 y2 y3
                        go_wp2
                        go_roundw
                        case rel => exact ⟨c + 1, true, by omega, by go_num, rfl, Lib.hid (by rw [HS.out, HB.out]; rfl), bR⟩
                        case measure => simp [intOf]; omega
                      · have HLbc := Lib.hid hx
                        clear hx
                        obtain ⟨y0, y1, y2, y3⟩ := Box4.of (block_keep g0 bR)
                        go_wp2_with fail
                        refine (leq_at HCK (h0.keep (keeps_below (below_trans b0 bR))) (hK.keep (keeps_below (below_trans b0 bR))) (a := b) (b := c) (by omega) (by omega)).mono ?_
                        rintro e wx45 ⟨rfl, bN⟩
                        rw [HLbc.out]
                        replace bR := below_trans bR bN
                        clear bN y0 y1 y2 y3
                        cases hx : ordL L a c
                        · have HLac := Lib.hid hx
                          clear hx
                          obtain ⟨y0, y1, y2, y3⟩ := Box4.of (block_keep g0 bR)
                          go_wp2_with fail
                          refine (leq_at HCK (h0.keep (keeps_below (below_trans b0 bR))) (hK.keep (keeps_below (below_trans b0 bR))) (a := a) (b := c) (by omega) (by omega)).mono ?_
                          rintro e wx46 ⟨rfl, bN⟩
                          rw [HLac.out]
                          replace bR := below_trans bR bN
                          clear bN y0 y1 y2 y3
                          exact absurd (HLAT.out.trans HLab.out HLbc.out) (by rw [HLac.out]; decide)
                        · have HLac := Lib.hid hx
                          clear hx
                          obtain ⟨y0, y1, y2, y3⟩ := Box4.of (block_keep g0 bR)
                          go_wp2_with fail
                          refine (leq_at HCK (h0.keep (keeps_below (below_trans b0 bR))) (hK.keep (keeps_below (below_trans b0 bR))) (a := a) (b := c) (by omega) (by omega)).mono ?_
                          rintro e wx47 ⟨rfl, bN⟩
                          rw [HLac.out]
                          replace bR := below_trans bR bN
                          clear bN y0 y1 y2 y3
                          go_wp2
                          go_roundw
                          case rel => exact ⟨c + 1, true, by omega, by go_num, rfl, Lib.hid (by rw [HS.out, HB.out]; rfl), bR⟩
                          case measure => simp [intOf]; omega
                · have e : c = L.elems.length := by omega
                  subst e
                  have hdc : decide (L.elems.length < L.elems.length) = false := decide_eq_false hltc
                  by_cases hab : a = b
                  · have HLab : Hid (ordL L a b = true) := Lib.hid (by rw [hab]; exact HLAT.out.refl (by omega))
                    have q1 : ((a : Int) == (b : Int)) = true := by simp [hab]
                    have q2 : (a == b) = true := by simp [hab]
                    have q3 : ((a : Int) != (b : Int)) = false := by simp [hab]
                    have q4 : (a != b) = false := by simp [hab]
                    clear hab
                    obtain ⟨y0, y1, y2, y3⟩ := Box4.of (block_keep g0 bR)
                    go_wp2_with fail
                    refine (leq_at HCK (h0.keep (keeps_below (below_trans b0 bR))) (hK.keep (keeps_below (below_trans b0 bR))) (a := a) (b := b) (by omega) (by omega)).mono ?_
                    rintro e wx48 ⟨rfl, bN⟩
                    rw [HLab.out]
                    replace bR := below_trans bR bN
                    clear bN y0 y1 y2 y3
                    go_wp2
                    go_roundw
                    case rel => exact ⟨b + 1, by omega, by go_num, bR⟩
                    case measure => simp [intOf]; omega
                  · have HKY := Lib.hid (order_key HLAT.out HRG.out hab)
                    rw [HC.out, HB.out] at HKY
                    have HANT := Lib.hid (fun h1 h2 => hab (HLAT.out.anti (a := a) (b := b) h1 h2))
                    have q1 : ((a : Int) == (b : Int)) = false := by simp; omega
                    have q2 : (a == b) = false := by simp [hab]
                    have q3 : ((a : Int) != (b : Int)) = true := by simp; omega
                    have q4 : (a != b) = true := by simp [hab]
                    clear hab
                    cases cv
                    · cases bt
                      · have HLab : Hid (ordL L a b = false) := HKY
                        obtain ⟨y0, y1, y2, y3⟩ := Box4.of (block_keep g0 bR)
                        go_wp2_with fail
                        refine (leq_at HCK (h0.keep (keeps_below (below_trans b0 bR))) (hK.keep (keeps_below (below_trans b0 bR))) (a := a) (b := b) (by omega) (by omega)).mono ?_
                        rintro e wx49 ⟨rfl, bN⟩
                        rw [HLab.out]
                        replace bR := below_trans bR bN
                        clear bN y0 y1 y2 y3
                        obtain ⟨y0, y1, y2, y3⟩ := Box4.of (block_keep g0 bR)
                        go_wp2_with fail
                        refine (leq_at HCK (h0.keep (keeps_below (below_trans b0 bR))) (hK.keep (keeps_below (below_trans b0 bR))) (a := a) (b := b) (by omega) (by omega)).mono ?_
                        rintro e wx50 ⟨rfl, bN⟩
                        rw [HLab.out]
                        replace bR := below_trans bR bN
                        clear bN y0 y1 y2 y3
                        go_wp2
                        go_roundw
                        case rel => exact ⟨b + 1, by omega, by go_num, bR⟩
                        case measure => simp [intOf]; omega
                      · have HLab : Hid (ordL L a b = true) := HKY
                        obtain ⟨y0, y1, y2, y3⟩ := Box4.of (block_keep g0 bR)
                        go_wp2_with fail
                        refine (leq_at HCK (h0.keep (keeps_below (below_trans b0 bR))) (hK.keep (keeps_below (below_trans b0 bR))) (a := a) (b := b) (by omega) (by omega)).mono ?_
                        rintro e wx51 ⟨rfl, bN⟩
                        rw [HLab.out]
                        replace bR := below_trans bR bN
                        clear bN y0 y1 y2 y3
                        obtain ⟨y0, y1, y2, y3⟩ := Box4.of (block_keep g0 bR)
                        go_wp2_with fail
                        refine (leq_at HCK (h0.keep (keeps_below (below_trans b0 bR))) (hK.keep (keeps_below (below_trans b0 bR))) (a := a) (b := b) (by omega) (by omega)).mono ?_
                        rintro e wx52 ⟨rfl, bN⟩
                        rw [HLab.out]
                        replace bR := below_trans bR bN
                        clear bN y0 y1 y2 y3
                        cases hx : ordL L b a
                        · have HLba := Lib.hid hx
                          clear hx
                          obtain ⟨y0, y1, y2, y3⟩ := Box4.of (block_keep g0 bR)
                          go_wp2_with fail
                          refine (leq_at HCK (h0.keep (keeps_below (below_trans b0 bR))) (hK.keep (keeps_below (below_trans b0 bR))) (a := b) (b := a) (by omega) (by omega)).mono ?_
                          rintro e wx53 ⟨rfl, bN⟩
                          rw [HLba.out]
                          replace bR := below_trans bR bN
                          clear bN y0 y1 y2 y3
                          go_wp2
                          go_roundw
                          case rel => exact ⟨b + 1, by omega, by go_num, bR⟩
                          case measure => simp [intOf]; omega
                        · exact absurd hx (fun h => HANT.out HLab.out h)
                    · cases bt
                      · have HLab : Hid (ordL L a b = true) := HKY
                        obtain ⟨y0, y1, y2, y3⟩ := Box4.of (block_keep g0 bR)
                        go_wp2_with fail
                        refine (leq_at HCK (h0.keep (keeps_below (below_trans b0 bR))) (hK.keep (keeps_below (below_trans b0 bR))) (a := a) (b := b) (by omega) (by omega)).mono ?_
                        rintro e wx54 ⟨rfl, bN⟩
                        rw [HLab.out]
                        replace bR := below_trans bR bN
                        clear bN y0 y1 y2 y3
                        obtain ⟨y0, y1, y2, y3⟩ := Box4.of (block_keep g0 bR)
                        go_wp2_with fail
                        refine (leq_at HCK (h0.keep (keeps_below (below_trans b0 bR))) (hK.keep (keeps_below (below_trans b0 bR))) (a := a) (b := b) (by omega) (by omega)).mono ?_
                        rintro e wx55 ⟨rfl, bN⟩
                        rw [HLab.out]
                        replace bR := below_trans bR bN
                        clear bN y0 y1 y2 y3
                        cases hx : ordL L b a
                        · have HLba := Lib.hid hx
                          clear hx
                          obtain ⟨y0, y1, y2, y3⟩ := Box4.of (block_keep g0 bR)
                          go_wp2_with fail
                          refine (leq_at HCK (h0.keep (keeps_below (below_trans b0 bR))) (hK.keep (keeps_below (below_trans b0 bR))) (a := b) (b := a) (by omega) (by omega)).mono ?_
                          rintro e wx56 ⟨rfl, bN⟩
                          rw [HLba.out]
                          replace bR := below_trans bR bN
                          clear bN y0 y1 y2 y3
                          go_wp2
                          go_roundw
                          case rel => exact ⟨b + 1, by omega, by go_num, bR⟩
                          case measure => simp [intOf]; omega
                        · exact absurd hx (fun h => HANT.out HLab.out h)
                      · have HLab : Hid (ordL L a b = true) := HKY
                        obtain ⟨y0, y1, y2, y3⟩ := Box4.of (block_keep g0 bR)
                        go_wp2_with fail
                        refine (leq_at HCK (h0.keep (keeps_below (below_trans b0 bR))) (hK.keep (keeps_below (below_trans b0 bR))) (a := a) (b := b) (by omega) (by omega)).mono ?_
                        rintro e wx57 ⟨rfl, bN⟩
                        rw [HLab.out]
                        replace bR := below_trans bR bN
                        clear bN y0 y1 y2 y3
                        obtain ⟨y0, y1, y2, y3⟩ := Box4.of (block_keep g0 bR)
                        go_wp2_with fail
                        refine (leq_at HCK (h0.keep (keeps_below (below_trans b0 bR))) (hK.keep (keeps_below (below_trans b0 bR))) (a := a) (b := b) (by omega) (by omega)).mono ?_
                        rintro e wx58 ⟨rfl, bN⟩
                        rw [HLab.out]
                        replace bR := below_trans bR bN
                        clear bN y0 y1 y2 y3
                        cases hx : ordL L b a
                        · have HLba := Lib.hid hx
                          clear hx
                          obtain ⟨y0, y1, y2, y3⟩ := Box4.of (block_keep g0 bR)
                          go_wp2_with fail
                          refine (leq_at HCK (h0.keep (keeps_below (below_trans b0 bR))) (hK.keep (keeps_below (below_trans b0 bR))) (a := b) (b := a) (by omega) (by omega)).mono ?_
                          rintro e wx59 ⟨rfl, bN⟩
                          rw [HLba.out]
                          replace bR := below_trans bR bN
                          clear bN y0 y1 y2 y3
                          go_wp2
                          go_roundw
                          case rel => exact ⟨b + 1, by omega, by go_num, bR⟩
                          case measure => simp [intOf]; omega
                        · exact absurd hx (fun h => HANT.out HLab.out h)
        · have e : b = L.elems.length := by omega
          subst e
          have hdb : decide (L.elems.length < L.elems.length) = false := decide_eq_false hltb
          go_wp2
          go_roundw
          case rel => exact ⟨a + 1, by omega, by go_num, bR⟩
          case measure => simp [intOf]; omega
    · have e : a = L.elems.length := by omega
      subst e
      have hda : decide (L.elems.length < L.elems.length) = false := decide_eq_false hlta
      go_wp2
      go_ret
      exact ⟨rfl, below_trans b0 bR⟩
end Go.Proofs.YtkjlflmcojmfgaaDoor
