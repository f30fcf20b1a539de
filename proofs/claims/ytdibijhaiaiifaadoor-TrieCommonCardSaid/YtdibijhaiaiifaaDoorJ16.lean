/- Parts Yd, Ye, Gt, Yf: words, walks and laws that the claims of this seat share. -/
import Derived.Test.YtdibijhaiaiifaaDoorJ15
import Derived.Test.YtdibijhaiaiifaaDoorJ12
/- IndexFunc and DeleteFunc over rows. -/
namespace Go.Proofs.YtdibijhaiaiifaaDoor
open Go.RowKit
/-- The index of the first element with a property, or -1. -/
def IdxOf {α : Type} (P : α → Bool) (xs : List α) (r : Int) : Prop := (r = -1 ∧ ∀ x ∈ xs, P x = false) ∨ ∃ i : Nat, r = i ∧ i < xs.length ∧ (∀ x ∈ xs.take i, P x = false) ∧ ∀ x, xs[i]? = some x → P x = true
set_option maxHeartbeats 4000000 in
set_option maxRecDepth 1000000 in
theorem indexR_any (g : FuncId) (ad : Addr) (P : RR → Bool) (va : Value) (xs : List RR) (w : World) (henter : ∀ args w, (callFunc g args).run Tryd.prog w = .ok (.enter g args) w)
    (hcall : ∀ W, Below w.heap.size w W → ∀ x ∈ xs, Calls Tryd.prog g #[rowV x, .pointer (some ad)] W fun e W' => e = .returned (.bool (P x)) ∧ Below W.heap.size W W') (ha : IsRel w va xs) :
    Calls Tryd.prog 133 #[va, .func (.func g) #[] #[.pointer (some ad)]] w fun e w' => ∃ r : Int, e = .returned (.int .i64 r) ∧ Hid (IdxOf P xs r) ∧ Below w.heap.size w w' := by
  obtain ⟨pa, pc, rfl, hm⟩ := ha.shape
  go_enter Tryd.func133, Tryd.ntmps133
  go_wp2
  go_loopg [8] xs.length (fun g vi wr => ∃ (i : Nat), vi = .int .i64 i ∧ i ≤ xs.length ∧ xs.length - i ≤ g ∧ Hid (∀ x ∈ xs.take i, P x = false) ∧ Below w.heap.size w wr)
  case atStart => exact ⟨0, rfl, Nat.zero_le _, Nat.le_refl _, Lib.hid (by simp), Below.refl _ _⟩
  case round =>
    obtain ⟨i, rfl, hi, hg, V, B⟩ := hrel
    by_cases hlt : i < xs.length
    · have hltz : (i : Int) < (xs.length : Int) := by omega
      obtain ⟨x, hx⟩ := getElem_of_lt hlt
      obtain ⟨b, off, e, c0, c1, rx⟩ := (ha.keep B).at_ hx
      cases e
      have hC := hcall _ B x (List.mem_of_getElem? hx)
      have HX := Lib.hid hx
      obtain ⟨q, hq⟩ : ∃ q, P x = q := ⟨_, rfl⟩
      rw [hq] at hC
      have HQ := Lib.hid hq
      clear hx hq rx
      unfold rowV at hC
      go_wp2_with fail
      refine hC.mono ?_
      rintro e w5 ⟨rfl, B5⟩
      have B6 := B.trans (B5.mono B.size)
      cases q with
      | true =>
        have RES := Lib.hid (show IdxOf P xs i from .inr ⟨i, rfl, hlt, V.out, fun y hy => by rw [HX.out] at hy; cases hy; exact HQ.out⟩)
        clear hC c0 c1
        go_wp2
        go_ret
        exact ⟨_, rfl, RES, B6⟩
      | false =>
        have VN := Lib.hid (show ∀ x ∈ xs.take (i + 1), P x = false from fun y hy => by
          rw [take_succ' HX.out] at hy
          rcases List.mem_append.1 hy with hy | hy
          · exact V.out y hy
          · rw [List.mem_singleton.1 hy]; exact HQ.out)
        clear hC c0 c1
        go_wp2
        go_roundg (xs.length - (i + 1))
        case measure => omega
        case rel => exact ⟨i + 1, by go_num, hlt, Nat.le_refl _, VN, B6⟩
    · have hltz : ¬ (i : Int) < (xs.length : Int) := by omega
      have RES := Lib.hid (show IdxOf P xs (-1) from .inl ⟨rfl, fun x hx => V.out x (by rw [List.take_of_length_le (by omega)]; exact hx)⟩)
      go_wp2
      go_ret
      exact ⟨_, rfl, RES, B⟩
/-- What DeleteFunc has made: i rows kept of the first j. -/
structure DelI (P : RR → Bool) (xs : List RR) (i j : Nat) (d : List RR) : Prop where
  lt : i < j
  le : j ≤ xs.length
  len : d.length = xs.length
  kept : d.take i = (xs.take j).filter fun x => !P x
  rest : d.drop j = xs.drop j
section
variable {P : RR → Bool} {xs d : List RR} {i j : Nat} {x : RR}
theorem filter_all {l : List RR} (h : ∀ x ∈ l, P x = false) : l.filter (fun x => !P x) = l := by
  rw [List.filter_eq_self]; intro x hx; rw [h x hx]; rfl
theorem DelI.start (hi : i < xs.length) (h1 : ∀ x ∈ xs.take i, P x = false) (h2 : ∀ x, xs[i]? = some x → P x = true) : DelI P xs i (i + 1) xs := by
  obtain ⟨y, hy⟩ : ∃ y, xs[i]? = some y := ⟨_, List.getElem?_eq_getElem hi⟩
  refine ⟨by omega, hi, rfl, ?_, rfl⟩
  rw [take_succ' hy, List.filter_append, filter_all h1, List.filter_cons, h2 y hy]
  simp
theorem DelI.get (h : DelI P xs i j d) (hx : xs[j]? = some x) : d[j]? = some x := by
  have h1 := congrArg (fun l => l[0]?) h.rest
  simp only [List.getElem?_drop, Nat.add_zero] at h1
  rw [h1, hx]
theorem DelI.skip (h : DelI P xs i j d) (hx : xs[j]? = some x) (hp : P x = true) : DelI P xs i (j + 1) d := by
  refine ⟨by have := h.lt; omega, (List.getElem?_eq_some_iff.1 hx).1, h.len, ?_, ?_⟩
  · rw [h.kept, take_succ' hx, List.filter_append, List.filter_cons, hp]; simp
  · have h1 := congrArg (fun l => l.drop 1) h.rest
    simpa [List.drop_drop] using h1
theorem DelI.move (h : DelI P xs i j d) (hx : xs[j]? = some x) (hp : P x = false) : DelI P xs (i + 1) (j + 1) (d.set i x) := by
  have hlt := h.lt
  have hj := (List.getElem?_eq_some_iff.1 hx).1
  have hl := h.len
  refine ⟨by omega, hj, by rw [List.length_set]; exact h.len, ?_, ?_⟩
  · rw [take_succ' hx, List.filter_append, ← h.kept, List.filter_cons, hp]
    rw [List.take_succ_eq_append_getElem (by rw [List.length_set]; omega), List.take_set_of_le (by omega)]
    simp
  · have h1 := congrArg (fun l => l.drop 1) h.rest
    rw [List.drop_set_of_lt (by omega)]
    simpa [List.drop_drop] using h1
end
theorem below_cells {B G : Nat} {a : World} (hG : B ≤ G) : ∀ (vs : List Value) (o : Nat) (w : World), Below B a w → Below B a (w.setCells G o vs)
  | [], _, _, h => h
  | v :: r, o, _, h => below_cells hG r (o + 1) _ (h.setCell (p := ⟨G, o, none⟩) hG v)
theorem Hold.cut {ex : Nat → Prop} {w : World} {base G n c i : Nat} {d : List RR} {cur : Array Value} (H : Hold 2 44 encR RowOk ex w base (.slice (some ⟨G, 0, none⟩) n c) d) (hb : w.heap[G]? = some (.cells cur 44 (0, 0))) (ht : cur.toList.take (d.length * 2) = d.flatMap encR) (hi : i ≤ d.length) (hc : d.length ≤ c) (h63 : c ≤ maxLen) (vs : List Value) (hx : ¬ ex G) (W : World) (hW : Agree ex (w.setCells G (i * 2) vs) W) :
    IsRel W (.slice (some ⟨G, 0, none⟩) (d.take i).length c) (d.take i) := by
  unfold maxLen at h63
  have hnx := hx
  clear hx
  refine ⟨⟨_, c, rfl, .inr ⟨G, 0, rfl, fun k x hx j u hj => ?_⟩, by rw [List.length_take]; omega, by rw [List.length_take]; omega, by omega⟩, fun x hx => ?_⟩
  · have hk : k < i := by have := (List.getElem?_eq_some_iff.1 hx).1; rw [List.length_take] at this; omega
    rw [List.getElem?_take_of_lt hk] at hx
    have hj2 : j < 2 := by have := (List.getElem?_eq_some_iff.1 hj).1; rw [encsR.len] at this; exact this
    refine hW.cell ?_ (by exact hnx)
    rw [setCells_low vs _ _ (by omega)]
    obtain ⟨k0, k1⟩ := take_get ht hx
    rcases j with _ | _ | j
    · obtain rfl : x.av = u := by simpa [encR] using hj
      rw [Nat.zero_add]
      exact cell_at hb k0
    · obtain rfl : x.wv = u := by simpa [encR] using hj
      rw [Nat.zero_add]
      exact cell_at hb k1
    · omega
  · exact (H.2 x (List.mem_of_mem_take hx)) _ ((setCells_off (X := Ex (.slice (some ⟨G, 0, none⟩) n c) ex) (.inl rfl) vs _ _ _ (Agree.refl _ _)).trans (hW.mono fun _ h => .inr h))
set_option maxHeartbeats 4000000 in
set_option maxRecDepth 1000000 in
theorem DeleteFunc_any (g : FuncId) (ad : Addr) (P : RR → Bool) (p : Option Addr) (c : Nat) (xs : List RR) (ex : Nat → Prop) (base : Nat) (w : World) (henter : ∀ args w, (callFunc g args).run Tryd.prog w = .ok (.enter g args) w)
    (hcall : ∀ W, Below base w W → ∀ x ∈ xs, RowOk W x → Calls Tryd.prog g #[rowV x, .pointer (some ad)] W fun e W' => e = .returned (.bool (P x)) ∧ Below W.heap.size W W') (H : Hold 2 44 encR RowOk ex w base (.slice p xs.length c) xs) (hbase : base ≤ w.heap.size) (hl : xs.length ≤ 1000000) (hex : ∀ k, ex k → k < base) :
    Calls Tryd.prog 104 #[.slice p xs.length c, .func (.func g) #[] #[.pointer (some ad)]] w fun e w' => ∃ u, e = .returned u ∧ (∀ W, Agree ex w' W → IsRel W u (xs.filter fun x => !P x)) ∧ Below base w w' := by
  have hm : xs.length ≤ 9223372036854775807 := by omega
  go_enter Tryd.func104, Tryd.ntmps104
  go_wp2_with fail
  refine (indexR_any g ad P _ xs w henter (fun W hW x hx => hcall W (hW.mono hbase) x hx (RowOk.keep (Off.here (H.2 x hx)) hW)) (H.rel hm)).mono ?_
  rintro e w1 ⟨r, rfl, HI, B1⟩
  replace H := H.keep B1
  rcases HI.out with ⟨hr, h0⟩ | ⟨i0, hr, hi0, h1, h2⟩
  · have hr1 : (r == -1) = true := by rw [hr]; rfl
    have RES := Lib.hid (filter_all h0)
    clear hr h0
    go_wp2
    go_ret
    exact ⟨_, rfl, fun W hW => by rw [RES.out]; exact (H.agree hW hex).rel hm, B1.mono hbase⟩
  · have HS := Lib.hid (DelI.start hi0 h1 h2)
    subst hr
    have hr1 : ((i0 : Int) == -1) = false := by rw [beq_eq_false_iff_ne]; omega
    obtain ⟨G, cur0, rfl, -, hG, -, hc1, hc2, -, -⟩ := H.1.open2 (by omega)
    have hc3 : c ≤ 9223372036854775807 := by unfold maxLen at hc2; omega
    clear h1 h2 HI cur0 hc2
    go_wp2
    go_loopg [5, 6] xs.length (fun g v5 v6 wr => ∃ (i j : Nat) (d : List RR), v5 = .int .i64 i ∧ v6 = .int .i64 j ∧ j ≤ xs.length ∧ i < j ∧ xs.length - j ≤ g ∧ Hid (DelI P xs i j d) ∧ Hold 2 44 encR RowOk ex wr base (.slice (some ⟨G, 0, none⟩) xs.length c) d ∧ Below base w wr)
    case atStart => exact ⟨i0, i0 + 1, xs, rfl, by go_num, hi0, by omega, by omega, HS, H, B1.mono hbase⟩
    case round =>
      obtain ⟨i, j, d, rfl, rfl, hj, hij, hg, V, HD, B⟩ := hrel
      obtain ⟨_, cur, e, hdl, -, hblk, -, -, hcs, htk⟩ := HD.1.open2 (by have := V.out.len; omega)
      cases e
      by_cases hlt : j < xs.length
      · have hltz : (j : Int) < (xs.length : Int) := by omega
        obtain ⟨x, hx⟩ := getElem_of_lt hlt
        have hxd := V.out.get hx
        obtain ⟨k0, k1⟩ := take_get htk hxd
        have c0 := cell_at hblk k0
        have c1 := cell_at hblk k1
        have hxm := List.mem_of_getElem? hx
        have hxdm := List.mem_of_getElem? hxd
        have HX := Lib.hid hx
        have rx := Off.here (HD.2 x hxdm)
        clear hx hxd k0 k1 hdl
        go_upto_region 8 with fail
        have BA := below_new wr (.cells #[x.av, x.wv] 44)
        have X := Cel.new wr 44 [x.av, x.wv]
        obtain ⟨wA, hwA⟩ : ∃ z, wr.alloc (.cells #[x.av, x.wv] 44) = z := ⟨_, rfl⟩
        have X' : Cel wA wr.heap.size 44 [x.av, x.wv] := by rw [← hwA]; exact X
        rw [hwA] at BA
        rw [hwA]
        clear hwA X c0 c1
        have q0 := X'.at_ (j := 0) rfl
        have q1 := X'.at_ (j := 1) rfl
        have Bz := B.trans (BA.mono (by have := B.size; omega))
        have hC := hcall wA Bz x hxm (rx.keep BA)
        obtain ⟨q, hq⟩ : ∃ q, P x = q := ⟨_, rfl⟩
        rw [hq] at hC
        have HQ := Lib.hid hq
        clear hq
        unfold rowV at hC
        go_wp2_with fail
        refine hC.mono ?_
        rintro e w5 ⟨rfl, B5⟩
        clear hC
        replace HD := HD.keep (below_trans BA B5)
        have hblk5 := block_keep hblk (below_trans BA B5)
        replace q0 := cell_keep B5 q0
        replace q1 := cell_keep B5 q1
        have B6 := Bz.trans (B5.mono (by have := Bz.size; omega))
        cases q with
        | true =>
          have VN := Lib.hid (V.out.skip HX.out HQ.out)
          clear q0 q1 hblk hblk5
          go_wp2
          go_roundg (xs.length - (j + 1))
          case measure => omega
          case rel => exact ⟨i, j + 1, d, rfl, by go_num, hlt, by omega, Nat.le_refl _, VN, HD, B6⟩
        | false =>
          have VN := Lib.hid (V.out.move HX.out HQ.out)
          have hil : i < d.length := by have := V.out.len; omega
          obtain ⟨z, hz⟩ := getElem_of_lt (l := d) (i := i) hil
          obtain ⟨k0, k1⟩ := take_get htk hz
          have y0 := cell_at hblk5 k0
          have y1 := cell_at hblk5 k1
          have f0 := free_at (j := i * 2) hblk5
          have f1 := free_at (j := i * 2 + 1) hblk5
          have HP := HD.put (x := x) hil hxdm
          have hix : (i : Int) < (xs.length : Int) := by omega
          have BP : Below base w ((w5.setCell ⟨G, i * 2, none⟩ x.av).setCell ⟨G, i * 2 + 1, none⟩ x.wv) := (B6.setCell (p := ⟨G, i * 2, none⟩) hG _).setCell (p := ⟨G, i * 2 + 1, none⟩) hG _
          clear hz k0 k1 hblk hil
          go_wp2
          go_roundg (xs.length - (j + 1))
          case measure => omega
          case rel => exact ⟨i + 1, j + 1, d.set i x, by go_num, by go_num, hlt, by omega, Nat.le_refl _, VN, HP, BP⟩
      · have hltz : ¬ (j : Int) < (xs.length : Int) := by omega
        obtain rfl : j = xs.length := by omega
        have hin : i ≤ d.length := by have := V.out.len; omega
        have hci : ¬ c = i := by omega
        have h63 : c ≤ maxLen := by unfold maxLen; omega
        have hclr := fun ty => run_clear_rows wr ty G (i * 2) (xs.length - i) (c - i) (by omega) (fun k hk => by rw [cell_of_row wr G (i * 2 + k) cur 44 (0, 0) hblk, Array.getElem?_eq_getElem (by omega)]; rfl) (fun k _ => free_at hblk)
        have RES := HD.cut hblk htk hin (by have := V.out.len; omega) h63 (List.replicate ((xs.length - i) * 2) (.slice none 0 0)) (fun q => by have := hex G q; omega)
        have hkept := V.out.kept
        rw [List.take_length] at hkept
        rw [List.length_take_of_le hin, hkept] at RES
        have BC : Below base w (wr.setCells G (i * 2) (List.replicate ((xs.length - i) * 2) (.slice none 0 0))) := below_cells hG _ _ _ B
        have HK := Lib.hid hkept
        obtain ⟨wC, hwC⟩ : ∃ z, wr.setCells G (i * 2) (List.replicate ((xs.length - i) * 2) (.slice none 0 0)) = z := ⟨_, rfl⟩
        rw [hwC] at hclr RES BC
        have e1 : (i : Int) ≤ (xs.length : Int) := by omega
        have e2 : (xs.length : Int) ≤ (c : Int) := by omega
        have e3 : (i : Int) ≤ (c : Int) := by omega
        clear hwC hkept hblk hdl hex
        go_wp2
        go_ret
        exact ⟨_, rfl, RES, BC⟩
end Go.Proofs.YtdibijhaiaiifaaDoor
/- The walk of runs and of its closures. -/
namespace Go.Proofs.YtdibijhaiaiifaaDoor
open Go.RowKit
set_option maxHeartbeats 4000000 in
set_option maxRecDepth 1000000 in
theorem key_any (x : RR) (y : Vl) (w : World) (hx : RowOk w x) (hy : fst? x.t = some y) :
    Calls Tryd.prog 135 #[rowV x] w fun e w' => e = .returned (valV y) ∧ Below w.heap.size w w' := by
  unfold rowV
  obtain ⟨b, off, hp, d0, d1, d2⟩ := vals_at' hx.vals hy
  simp only [Nat.zero_mul, Nat.add_zero] at d0 d1 d2
  have hlen : (0 : Int) < (x.t.length : Int) := by
    unfold fst? at hy
    have := (List.getElem?_eq_some_iff.1 hy).1
    omega
  have hxv : x.av = .slice (some ⟨b, off, none⟩) x.t.length x.ca := by show Value.slice x.pa _ _ = _; rw [hp]
  obtain ⟨wv, hwv⟩ : ∃ v, x.wv = v := ⟨_, rfl⟩
  rw [hxv, hwv]
  clear hwv hxv
  obtain ⟨nt, hnt⟩ : ∃ n, x.t.length = n := ⟨_, rfl⟩
  rw [hnt] at hlen
  rw [hnt]
  clear hnt hx hy hp
  obtain ⟨w1, hw1⟩ : ∃ z, (w.alloc (.cells #[.slice (some ⟨b, off, none⟩) nt x.ca, wv] 44)).alloc (.cells #[.int .i64 0, .int .i64 0, .string ⟨#[]⟩] 58) = z := ⟨_, rfl⟩
  have B1 : Below w.heap.size w w1 := by rw [← hw1]; exact below_alloc' (below_new _ _)
  have X : Cel w1 w.heap.size 44 [.slice (some ⟨b, off, none⟩) nt x.ca, wv] := by rw [← hw1]; exact (Cel.new w 44 _).keep (below_new _ _)
  have Y : Cel w1 (w.heap.size + 1) 58 [.int .i64 0, .int .i64 0, .string ⟨#[]⟩] := by
    have := Cel.new (w.alloc (.cells #[.slice (some ⟨b, off, none⟩) nt x.ca, wv] 44)) 58 [.int .i64 0, .int .i64 0, .string ⟨#[]⟩]
    rw [World.size_alloc, hw1] at this
    exact this
  replace d0 := cell_keep B1 d0
  replace d1 := cell_keep B1 d1
  replace d2 := cell_keep B1 d2
  go_enter Tryd.func135, Tryd.ntmps135
  go_upto_region 1 with fail
  clear hw1
  obtain ⟨g1, hg1⟩ : ∃ g, w.heap.size = g := ⟨_, rfl⟩
  have B2 := B1
  rw [hg1] at X Y B1
  rw [hg1]
  have q0 := X.at_ (j := 0) rfl
  have y0 := Y.at_ (j := 0) rfl
  have y1 := Y.at_ (j := 1) rfl
  have y2 := Y.at_ (j := 2) rfl
  have f0 := Y.free 0
  have f1 := Y.free 1
  have f2 := Y.free 2
  go_wp2
  have Z := ((Y.set 0 (.int .i64 y.t)).set 1 (.int .i64 y.n)).set 2 (.string ⟨y.s.toArray⟩)
  have z0 := Z.at_ (j := 0) rfl
  have z1 := Z.at_ (j := 1) rfl
  have z2 := Z.at_ (j := 2) rfl
  have BZ := ((B1.setCell (p := ⟨g1 + 1, 0, none⟩) (Nat.le_succ _) (.int .i64 y.t)).setCell (p := ⟨g1 + 1, 1, none⟩) (Nat.le_succ _) (.int .i64 y.n)).setCell (p := ⟨g1 + 1, 2, none⟩) (Nat.le_succ _) (.string ⟨y.s.toArray⟩)
  refine bodyPost_ret (v := valV y) (by simp [results, Tryd.results135, go_sem, z0, z1, z2, valV]) rfl ?_
  exact ⟨rfl, by rw [hg1]; exact BZ⟩
theorem key_aftB {W : World} {x : RR} {y : Vl} (hx : RowOk W x) (hy : fst? x.t = some y) (p : AftB W) : Calls Tryd.prog 135 #[rowV x] p.w' fun e w'' => e = .returned (valV y) ∧ ∃ q : AftB W, w'' = q.w' := AftB.call (key_any x y p.w' (hx.keep p.ok) hy)
def sameK (x y : RR) : Bool := decide (fst? y.t = fst? x.t)
set_option maxHeartbeats 4000000 in
set_option maxRecDepth 1000000 in
theorem runs1_any (x z : RR) (y y0 : Vl) (b3 b2 : Nat) (p : Option Addr) (n c : Nat) (l : List RR) (w : World) (hx : RowOk w x) (hy : fst? x.t = some y) (h3 : w.cell? ⟨b3, 0, none⟩ = some (.func (.func 135) #[] #[])) (h2 : w.cell? ⟨b2, 0, none⟩ = some (.slice p n c)) (hl : IsRel w (.slice p n c) l) (hz : l[0]? = some z) (hy0 : fst? z.t = some y0) :
    Calls Tryd.prog 147 #[rowV x, .pointer (some ⟨b3, 0, none⟩), .pointer (some ⟨b2, 0, none⟩)] w fun e w' => e = .returned (.bool (!sameK z x)) ∧ Below w.heap.size w w' := by
  obtain ⟨q, hq⟩ : ∃ q, (!decide (y = y0)) = q := ⟨_, rfl⟩
  have hqr : ∀ w, (binOp .neq 58 (valV y) (valV y0)).run Tryd.prog w = .ok (.bool q) w := fun w => by rw [← hq]; exact run_neq_vl y y0 w
  have hgd : ∀ x' y' w, (eqGuard .neq 58 x' y' (valV y) (valV y0)).run Tryd.prog w = .ok () w := fun x' y' w => run_guard_vl .neq x' y' _ _ w
  have HQ := Lib.hid (show (!sameK z x) = q by rw [← hq]; unfold sameK; rw [hy, hy0]; simp)
  rw [HQ.out]
  clear hq HQ
  obtain ⟨b, off, hp, d0, d1, rz⟩ := hl.at_ hz
  rw [Nat.zero_mul, Nat.add_zero] at d0 d1
  subst hp
  have hn : (0 : Int) < (n : Int) := by
    obtain ⟨⟨_, _, e, -⟩, -⟩ := hl
    injection e with e1 e2 e3
    have := (List.getElem?_eq_some_iff.1 hz).1
    omega
  clear hl hz
  unfold rowV
  have BA := below_new w (.cells #[x.av, x.wv] 44)
  have X := Cel.new w 44 [x.av, x.wv]
  go_enter Tryd.func147, Tryd.ntmps147
  go_upto_region 1 with fail
  obtain ⟨wA, hwA⟩ : ∃ z, w.alloc (.cells #[x.av, x.wv] 44) = z := ⟨_, rfl⟩
  have X' : Cel wA w.heap.size 44 [x.av, x.wv] := by rw [← hwA]; exact X
  rw [hwA] at BA
  rw [hwA]
  clear hwA X
  replace hx := hx.keep BA
  replace rz := rz.keep BA
  have a0 := AftB.cell (X'.at_ (j := 0) rfl)
  have a1 := AftB.cell (X'.at_ (j := 1) rfl)
  have a2 := AftB.cell (cell_keep BA h3)
  have a3 := AftB.cell (cell_keep BA h2)
  have a4 := AftB.cell (cell_keep BA d0)
  have a5 := AftB.cell (cell_keep BA d1)
  clear h3 h2 d0 d1 X'
  refine wp_region_aftB (by kernel_rfl) (by kernel_rfl) ?_
  repeat (go_big_quiet_step ((first | exact key_aftB hx hy _ | exact key_aftB rz hy0 _)))
  refine wpQuiet_nil ?_
  intro w5 B5
  clear a0 a1 a2 a3 a4 a5
  go_wp2
  go_ret
  exact ⟨rfl, below_trans BA B5⟩
end Go.Proofs.YtdibijhaiaiifaaDoor
/- Operations of a list; relations of rows that lie there. -/
namespace Go.Proofs.YtdibijhaiaiifaaDoor
open Go.RowKit
/-- The frame after a step of a drawn region, laid out: an operation of the list. -/
theorem gets : (∀ (l : List Oper) (i : Nat) (h : i < l.toArray.size), l.toArray[i] = l[i]'(by simpa using h)) ∧ (∀ (x : Oper) (l : List Oper) (h : 0 < (x :: l).length), (x :: l)[0] = x) ∧ ∀ (x : Oper) (l : List Oper) (n : Nat) (h : n + 1 < (x :: l).length), (x :: l)[n + 1] = l[n]'(by simpa using h) :=
  ⟨fun _ _ _ => by simp, fun _ _ _ => rfl, fun _ _ _ _ => rfl⟩
theorem IsRel.take {w : World} {a : Option Addr} {n c : Nat} {l : List RR} (h : IsRel w (.slice a n c) l) {m : Nat} (hm : m ≤ l.length) : IsRel w (.slice a m c) (l.take m) := ⟨h.1.take hm, fun x hx => h.2 x (List.mem_of_mem_take hx)⟩
theorem isRel_lit {w : World} {l : List RR} (hl : l.length ≤ 9223372036854775807) (h : ∀ x ∈ l, RowOk w x) : IsRel (w.alloc (.cells (l.flatMap encR).toArray 44)) (.slice (some ⟨w.heap.size, 0, none⟩) l.length l.length) l :=
  ⟨IsRows.lit w l encsR hl, fun x hx => (h x hx).keep (below_new _ _)⟩
theorem isInts_lit (w : World) (l : List Int) (hl : l.length ≤ 9223372036854775807) : IsInts (w.alloc (.cells (l.flatMap encI).toArray 3)) (.slice (some ⟨w.heap.size, 0, none⟩) l.length l.length) l := IsRows.lit w l encsI hl
end Go.Proofs.YtdibijhaiaiifaaDoor
/- The walk of runs. -/
namespace Go.Proofs.YtdibijhaiaiifaaDoor
open Go.RowKit
set_option maxHeartbeats 4000000 in
set_option maxRecDepth 1000000 in
theorem indexW_any (g : FuncId) (ad ae : Addr) (P : RR → Bool) (va : Value) (xs : List RR) (w : World) (henter : ∀ args w, (callFunc g args).run Tryd.prog w = .ok (.enter g args) w)
    (hcall : ∀ W, Below w.heap.size w W → ∀ x ∈ xs, Calls Tryd.prog g #[rowV x, .pointer (some ad), .pointer (some ae)] W fun e W' => e = .returned (.bool (P x)) ∧ Below W.heap.size W W') (ha : IsRel w va xs) :
    Calls Tryd.prog 146 #[va, .func (.func g) #[] #[.pointer (some ad), .pointer (some ae)]] w fun e w' => ∃ r : Int, e = .returned (.int .i64 r) ∧ Hid (IdxOf P xs r) ∧ Below w.heap.size w w' := by
  obtain ⟨pa, pc, rfl, hm⟩ := ha.shape
  go_enter Tryd.func146, Tryd.ntmps146
  go_wp2
  go_loopg [8] xs.length (fun g vi wr => ∃ (i : Nat), vi = .int .i64 i ∧ i ≤ xs.length ∧ xs.length - i ≤ g ∧ Hid (∀ x ∈ xs.take i, P x = false) ∧ Below w.heap.size w wr)
  case atStart => exact ⟨0, rfl, Nat.zero_le _, Nat.le_refl _, Lib.hid (by simp), Below.refl _ _⟩
  case round =>
    obtain ⟨i, rfl, hi, hg, V, B⟩ := hrel
    by_cases hlt : i < xs.length
    · have hltz : (i : Int) < (xs.length : Int) := by omega
      obtain ⟨x, hx⟩ := getElem_of_lt hlt
      obtain ⟨b, off, e, c0, c1, rx⟩ := (ha.keep B).at_ hx
      cases e
      have hC := hcall _ B x (List.mem_of_getElem? hx)
      have HX := Lib.hid hx
      obtain ⟨q, hq⟩ : ∃ q, P x = q := ⟨_, rfl⟩
      rw [hq] at hC
      have HQ := Lib.hid hq
      clear hx hq rx
      unfold rowV at hC
      go_wp2_with fail
      refine hC.mono ?_
      rintro e w5 ⟨rfl, B5⟩
      have B6 := B.trans (B5.mono B.size)
      cases q with
      | true =>
        have RES := Lib.hid (show IdxOf P xs i from .inr ⟨i, rfl, hlt, V.out, fun y hy => by rw [HX.out] at hy; cases hy; exact HQ.out⟩)
        clear hC c0 c1
        go_wp2
        go_ret
        exact ⟨_, rfl, RES, B6⟩
      | false =>
        have VN := Lib.hid (show ∀ x ∈ xs.take (i + 1), P x = false from fun y hy => by
          rw [take_succ' HX.out] at hy
          rcases List.mem_append.1 hy with hy | hy
          · exact V.out y hy
          · rw [List.mem_singleton.1 hy]; exact HQ.out)
        clear hC c0 c1
        go_wp2
        go_roundg (xs.length - (i + 1))
        case measure => omega
        case rel => exact ⟨i + 1, by go_num, hlt, Nat.le_refl _, VN, B6⟩
    · have hltz : ¬ (i : Int) < (xs.length : Int) := by omega
      have RES := Lib.hid (show IdxOf P xs (-1) from .inl ⟨rfl, fun x hx => V.out x (by rw [List.take_of_length_le (by omega)]; exact hx)⟩)
      go_wp2
      go_ret
      exact ⟨_, rfl, RES, B⟩
theorem dw_le {α : Type} (p : α → Bool) : ∀ l : List α, (l.dropWhile p).length ≤ l.length
  | [] => Nat.le_refl _
  | x :: l => by
    rw [List.dropWhile_cons]
    split
    · have := dw_le p l; simp; omega
    · exact Nat.le_refl _
theorem tw_all {α : Type} {p : α → Bool} : ∀ {l : List α}, (∀ x ∈ l, p x = true) → l.takeWhile p = l
  | [], _ => rfl
  | x :: l, h => by rw [List.takeWhile_cons, if_pos (h x (by simp)), tw_all fun y hy => h y (by simp [hy])]
theorem drop_while_lt {x : RR} {r : List RR} : ((x :: r).dropWhile (sameK x)).length < (x :: r).length := by
  have h : sameK x x = true := by unfold sameK; exact decide_eq_true rfl
  rw [List.dropWhile_cons, if_pos h]
  have := dw_le (sameK x) r
  simp; omega
/-- The longest runs of rows of one first value. -/
def runsL : List RR → List (List RR)
  | [] => []
  | x :: r => (x :: r).takeWhile (sameK x) :: runsL ((x :: r).dropWhile (sameK x))
termination_by l => l.length
decreasing_by exact drop_while_lt
theorem runsL_cons (x : RR) (r : List RR) : runsL (x :: r) = (x :: r).takeWhile (sameK x) :: runsL ((x :: r).dropWhile (sameK x)) := by rw [runsL]
theorem idx_while {α : Type} {P : α → Bool} : ∀ {xs : List α} {i : Nat}, i < xs.length → (∀ x ∈ xs.take i, P x = false) → (∀ x, xs[i]? = some x → P x = true) → (xs.takeWhile fun x => !P x).length = i
  | [], i, h, _, _ => by simp at h
  | x :: xs, 0, _, _, h => by
    have := h x rfl
    rw [List.takeWhile_cons, this]; rfl
  | x :: xs, i + 1, h, h1, h2 => by
    have hx := h1 x (by simp)
    rw [List.takeWhile_cons, hx]
    simp only [Bool.not_false, if_true, List.length_cons]
    rw [idx_while (i := i) (by simpa using h) (fun y hy => h1 y (by simp [hy])) (fun y hy => h2 y (by simpa using hy))]
theorem idx_len {α : Type} {P : α → Bool} {xs : List α} {r : Int} (h : IdxOf P xs r) : (if r < 0 then (xs.length : Int) else r) = ((xs.takeWhile fun x => !P x).length : Int) := by
  rcases h with ⟨rfl, h⟩ | ⟨i, rfl, hi, h1, h2⟩
  · rw [if_pos (by omega), tw_all (fun x hx => by rw [h x hx]; rfl)]
  · rw [if_neg (by omega), idx_while hi h1 h2]
theorem take_while_len {α : Type} (p : α → Bool) : ∀ l : List α, l.take (l.takeWhile p).length = l.takeWhile p ∧ l.drop (l.takeWhile p).length = l.dropWhile p
  | [] => ⟨rfl, rfl⟩
  | x :: l => by
    rw [List.takeWhile_cons, List.dropWhile_cons]
    cases h : p x with
    | false => exact ⟨rfl, rfl⟩
    | true =>
      obtain ⟨h1, h2⟩ := take_while_len p l
      simp only [if_true, List.length_cons, List.take_succ_cons, List.drop_succ_cons]
      exact ⟨by rw [h1], h2⟩
/-- A run: a part of the rows' slice. -/
structure RN where
  p : Option Addr
  c : Nat
  rs : List RR
abbrev RN.v (r : RN) : Value := .slice r.p r.rs.length r.c
def encN (r : RN) : List Value := [r.v]
def RunOk (w : World) (r : RN) : Prop := IsRel w r.v r.rs
theorem runOk_keep (w w' : World) (x : RN) (h : Below w.heap.size w w') (k : RunOk w x) : RunOk w' x := IsRel.keep k h
theorem encsN : Encs 1 encN := ⟨fun _ => rfl, fun x u hu => by unfold encN at hu; simp at hu; subst hu; rfl⟩
theorem fitsN : Fits 133 23 1 24 (.slice none 0 0) := ⟨Tryd.underlying133, by kernel_rfl, by kernel_rfl, by decide, by decide⟩
def IsRuns (w : World) (v : Value) (l : List RN) : Prop := IsRows 1 encN w v l ∧ ∀ x ∈ l, RunOk w x
theorem IsRuns.keep {w w' : World} {v : Value} {l : List RN} (h : IsRuns w v l) (hb : Below w.heap.size w w') : IsRuns w' v l := ⟨h.1.keep (keeps_below hb), fun x hx => runOk_keep w w' x hb (h.2 x hx)⟩
theorem IsRel.after {w : World} {b off n c m : Nat} {l : List RR} (h : IsRel w (.slice (some ⟨b, off, none⟩) n c) l) (hm : m ≤ l.length) : IsRel w (.slice (if c = m then some ⟨b, off, none⟩ else some ⟨b, off + m * 2, none⟩) (n - m) (c - m)) (l.drop m) := by
  obtain ⟨⟨a, c', e, hr, h1, h2, h3⟩, hk⟩ := id h
  injection e with e1 e2 e3
  subst e1 e3 e2
  refine ⟨?_, fun x hx => hk x (List.mem_of_mem_drop hx)⟩
  by_cases hc : c = m
  · rw [if_pos hc]
    have hn : l.drop m = [] := List.drop_eq_nil_of_le (by omega)
    rw [hn]
    exact ⟨_, _, by rw [show l.length - m = 0 by omega]; rfl, .inl rfl, by simp, by simp, by omega⟩
  · rw [if_neg hc]
    exact IsRows.drop h.1 hm
end Go.Proofs.YtdibijhaiaiifaaDoor
