/- Parts Ym, Yn: words, walks and laws that the claims of this seat share. -/
import Derived.Test.YtdibijhaiaiifaaDoorJ17
/- The walk of Sub. -/
namespace Go.Proofs.YtdibijhaiaiifaaDoor
open Go.RowKit
/-- Each value of the trie has its own trie below it. -/
inductive Sq : Tr → Prop
  | mk (t : Tr) : t.vs.length ≤ 1000000000 → t.ks.length = t.vs.length → (∀ k ∈ t.ks, Sq k) → Sq t
theorem Sq.len {t : Tr} (h : Sq t) : t.vs.length ≤ 1000000000 := by cases h; assumption
theorem Sq.eq {t : Tr} (h : Sq t) : t.ks.length = t.vs.length := by cases h; assumption
theorem Sq.sub {t : Tr} (h : Sq t) : ∀ k ∈ t.ks, Sq k := by cases h; assumption
/-- What Sub finds below a beginning. -/
def SubI : List Vl → Tr → Option Tr → Prop
  | [], t, r => r = some t
  | v :: p, t, r => ∃ i, SrchOf (seekP t.vs v) t.vs.length i ∧ ((t.vs[i]? ≠ some v ∧ r = none) ∨ ∃ k, t.vs[i]? = some v ∧ t.ks[i]? = some k ∧ SubI p k r)
theorem drop_cons {α : Type} {l : List α} {i : Nat} {x : α} (h : l[i]? = some x) : l.drop i = x :: l.drop (i + 1) := by
  obtain ⟨hi, rfl⟩ := List.getElem?_eq_some_iff.1 h
  exact List.drop_eq_getElem_cons hi
/-- What Sub returns. -/
def SubRet (t : Tr) (p : List Vl) (w : World) (e : Ending) (w' : World) : Prop := ∃ (x : TR) (ok : Bool), e = .returned (.tuple #[trV x, .bool ok]) ∧ TrOk w' x ∧ Sq x.tr ∧ Hid (SubI p t (if ok then some x.tr else none) ∧ (ok = false → x = noTr)) ∧ Below w.heap.size w w'
/-- The same, and what is found reads wherever the trie does. -/
def SubRetD (t : TR) (p : List Vl) (w : World) (e : Ending) (w' : World) : Prop := ∃ (x : TR) (ok : Bool), e = .returned (.tuple #[trV x, .bool ok]) ∧ TrOk w' x ∧ Sq x.tr ∧ Hid (SubI p t.tr (if ok then some x.tr else none) ∧ (ok = false → x = noTr)) ∧ Hid (∀ W, TrOk W t → TrOk W x) ∧ Below w.heap.size w w'
theorem noTr_sq : Sq noTr.tr := .mk _ (by rw [TR.tr_vs]; exact Nat.zero_le _) (by rw [TR.tr_vs, TR.tr_ks]; rfl) (by rw [TR.tr_ks]; intro k hk; cases hk)
set_option maxHeartbeats 4000000 in
set_option maxRecDepth 1000000 in
theorem SubD_any (t : TR) (vp : Value) (p : List Vl) (w : World) (ht : TrOk w t) (hq : Sq t.tr) (hp : IsVals w vp p) : Calls Tryd.prog 54 #[trV t, vp] w (SubRetD t p w) := by
  obtain ⟨pp, pc, rfl, -, hpl, -, -⟩ := id hp
  unfold trV
  obtain ⟨w1, hw1⟩ : ∃ z, (w.alloc (.cells #[t.vv, t.kv, t.wv] 64)).alloc (.cells #[.slice none 0 0, .slice none 0 0, .slice none 0 0] 64) = z := ⟨_, rfl⟩
  have B1 : Below w.heap.size w w1 := by rw [← hw1]; exact below_alloc' (below_new _ _)
  have X2 : Cel w1 w.heap.size 64 [t.vv, t.kv, t.wv] := by rw [← hw1]; exact (Cel.new w 64 _).keep (below_new _ _)
  have X4 : Cel w1 (w.heap.size + 1) 64 [.slice none 0 0, .slice none 0 0, .slice none 0 0] := by
    have := Cel.new (w.alloc (.cells #[t.vv, t.kv, t.wv] 64)) 64 [.slice none 0 0, .slice none 0 0, .slice none 0 0]
    rw [World.size_alloc, hw1] at this
    exact this
  go_enter Tryd.func54, Tryd.ntmps54
  go_upto_region 1 with fail
  clear hw1
  obtain ⟨b2, hb2e⟩ : ∃ b, w.heap.size = b := ⟨_, rfl⟩
  obtain ⟨b4, hb4e⟩ : ∃ b, b2 + 1 = b := ⟨_, rfl⟩
  rw [hb2e] at X2 X4
  rw [hb4e] at X4
  rw [hb2e]
  rw [hb4e]
  have h2w : w.heap.size ≤ b2 := by omega
  have h4w : w.heap.size ≤ b4 := by omega
  have h24 : b2 ≠ b4 := by omega
  have h42 : b4 ≠ b2 := by omega
  clear hb2e hb4e
  go_wp2
  go_loopg [11] p.length (fun g vi wr => ∃ (i : Nat) (cur : TR), vi = .int .i64 i ∧ i ≤ p.length ∧ p.length - i ≤ g ∧ Cel wr b2 64 [cur.vv, cur.kv, cur.wv] ∧ Cel wr b4 64 [.slice none 0 0, .slice none 0 0, .slice none 0 0] ∧ TrOk w cur ∧ Sq cur.tr ∧ Hid (∀ r, SubI (p.drop i) cur.tr r → SubI p t.tr r) ∧ Hid (∀ W, TrOk W t → TrOk W cur) ∧ Below w.heap.size w wr)
  case atStart => exact ⟨0, t, rfl, Nat.zero_le _, Nat.le_refl _, X2, X4, ht, hq, Lib.hid (fun r h => h), Lib.hid (fun W h => h), B1⟩
  case round =>
    obtain ⟨i, cur, rfl, hi, hg, C2, C4, hcur, hsq, V, D, B⟩ := hrel
    by_cases hlt : i < p.length
    · have hltz : (i : Int) < (p.length : Int) := by omega
      obtain ⟨v, hv⟩ := getElem_of_lt hlt
      obtain ⟨b, off, e, d0, d1, d2⟩ := vals_at' (hp.keep B) hv
      cases e
      have HV := Lib.hid hv
      clear hv
      obtain ⟨wA, hwA⟩ : ∃ z, wr.alloc (.cells #[.int .i64 0, .int .i64 0, .string ⟨#[]⟩] 58) = z := ⟨_, rfl⟩
      have BA : Below wr.heap.size wr wA := by rw [← hwA]; exact below_new _ _
      have XA : Cel wA wr.heap.size 58 [.int .i64 0, .int .i64 0, .string ⟨#[]⟩] := by rw [← hwA]; exact Cel.new wr 58 _
      have h7w := B.size
      have hs2 : b2 < wr.heap.size := C2.lt
      have hs4 : b4 < wr.heap.size := C4.lt
      obtain ⟨b7, hb7⟩ : ∃ b, wr.heap.size = b := ⟨_, rfl⟩
      rw [hb7] at h7w XA hs2 hs4
      have C2A := C2.keep BA
      have C4A := C4.keep BA
      rw [hb7] at BA
      have y0 := XA.at_ (j := 0) rfl
      have y1 := XA.at_ (j := 1) rfl
      have y2 := XA.at_ (j := 2) rfl
      have f0 := XA.free 0
      have f1 := XA.free 1
      have f2 := XA.free 2
      have Z := ((XA.set 0 (.int .i64 v.t)).set 1 (.int .i64 v.n)).set 2 (.string ⟨v.s.toArray⟩)
      have BZ := ((BA.setCell (p := ⟨b7, 0, none⟩) (Nat.le_refl _) (.int .i64 v.t)).setCell (p := ⟨b7, 1, none⟩) (Nat.le_refl _) (.int .i64 v.n)).setCell (p := ⟨b7, 2, none⟩) (Nat.le_refl _) (.string ⟨v.s.toArray⟩)
      obtain ⟨wB, hwB⟩ : ∃ z, ((wA.setCell ⟨b7, 0, none⟩ (.int .i64 v.t)).setCell ⟨b7, 1, none⟩ (.int .i64 v.n)).setCell ⟨b7, 2, none⟩ (.string ⟨v.s.toArray⟩) = z := ⟨_, rfl⟩
      rw [hwB] at Z BZ
      rw [← hb7] at BZ
      have C2B := C2.keep BZ
      have C4B := C4.keep BZ
      have z0 := Z.at_ (j := 0) rfl
      have z1 := Z.at_ (j := 1) rfl
      have z2 := Z.at_ (j := 2) rfl
      have q0 := C2B.at_ (j := 0) rfl
      have q1 := C2B.at_ (j := 1) rfl
      have q2 := C2B.at_ (j := 2) rfl
      have BB := B.trans (BZ.mono B.size)
      clear C2A C4A BA XA C2 C4 BZ
      unfold strV at d2
      have hS := Seek_any cur v wB (hcur.keep BB) (by have := hsq.len; rwa [TR.tr_vs] at this)
      unfold trV valV strV at hS
      go_wp2_with fail
      refine hS.mono ?_
      rintro e w5 ⟨r, rfl, HS, B5⟩
      clear hS y0 y1 y2 f0 f1 f2 hwA hwB
      replace q0 := cell_keep B5 q0
      replace q1 := cell_keep B5 q1
      replace q2 := cell_keep B5 q2
      replace z0 := cell_keep B5 z0
      replace z1 := cell_keep B5 z1
      replace z2 := cell_keep B5 z2
      replace C2B := C2B.keep B5
      replace C4B := C4B.keep B5
      have BW := BB.trans (B5.mono BB.size)
      have hrl := HS.out.1
      have NONE := Lib.hid (show cur.vs[r]? ≠ some v → SubI p t.tr none from fun h => V.out _ (by
        rw [drop_cons HV.out]
        exact ⟨r, by rw [TR.tr_vs]; exact HS.out, .inl ⟨by rw [TR.tr_vs]; exact h, rfl⟩⟩))
      have SOME := Lib.hid (show ∀ k q, cur.vs[r]? = some v → cur.ks[r]? = some k → SubI (p.drop (i + 1)) k.tr q → SubI p t.tr q from fun k q h1 h2 h3 => V.out _ (by
        rw [drop_cons HV.out]
        exact ⟨r, by rw [TR.tr_vs]; exact HS.out, .inr ⟨k.tr, by rw [TR.tr_vs]; exact h1, by rw [TR.tr_ks, List.getElem?_map, h2]; rfl, h3⟩⟩))
      have hcv := hcur.vals.keep BW
      have a_z0 := AftB.cell z0
      have a_z1 := AftB.cell z1
      have a_z2 := AftB.cell z2
      have a_q0 := AftB.cell q0
      unfold TR.vv at a_q0
      clear d0 d1 d2 z0 z1 z2
      by_cases hre : r = cur.vs.length
      · have RES := Lib.hid (NONE.out (by rw [List.getElem?_eq_none (by omega)]; simp))
        obtain ⟨nv, hnv⟩ : ∃ n, cur.vs.length = n := ⟨_, rfl⟩
        rw [hnv] at hre a_q0
        have he : (((r : Nat) : Int) == ((nv : Nat) : Int)) = true := by rw [hre]; simp
        clear hre hrl hnv
        go_upto_region 5 with fail
        refine wp_region_aftB (by kernel_rfl) (by kernel_rfl) ?_
        repeat (go_big_quiet_step (fail))
        refine wpQuiet_nil ?_
        intro w6 B6
        clear a_z0 a_z1 a_z2 a_q0 q0 q1 q2
        replace C4B := C4B.keep B6
        have x0 := C4B.at_ (j := 0) rfl
        have x1 := C4B.at_ (j := 1) rfl
        have x2 := C4B.at_ (j := 2) rfl
        have e0 := C4B.free 0
        have e1 := C4B.free 1
        have e2 := C4B.free 2
        have Y := ((C4B.set 0 (.slice none 0 0)).set 1 (.slice none 0 0)).set 2 (.slice none 0 0)
        have BY := ((BW.trans (B6.mono BW.size)).setCell (p := ⟨b4, 0, none⟩) h4w (.slice none 0 0)).setCell (p := ⟨b4, 1, none⟩) h4w (.slice none 0 0) |>.setCell (p := ⟨b4, 2, none⟩) h4w (.slice none 0 0)
        obtain ⟨wZ, hwZ⟩ : ∃ z, ((w6.setCell ⟨b4, 0, none⟩ (.slice none 0 0)).setCell ⟨b4, 1, none⟩ (.slice none 0 0)).setCell ⟨b4, 2, none⟩ (.slice none 0 0) = z := ⟨_, rfl⟩
        rw [hwZ] at Y BY
        have v0 := Y.at_ (j := 0) rfl
        have v1 := Y.at_ (j := 1) rfl
        have v2 := Y.at_ (j := 2) rfl
        clear Y
        go_wp2
        try rw [hwZ]
        refine bodyPost_ret (v := .tuple #[.agg #[.slice none 0 0, .slice none 0 0, .slice none 0 0], .bool false]) (by simp [results, Tryd.results54, go_sem, v0, v1, v2]) rfl ?_
        exact ⟨noTr, false, rfl, noTr_ok _, noTr_sq, Lib.hid ⟨RES.out, fun _ => rfl⟩, Lib.hid (fun W _ => noTr_ok W), BY⟩
      · have hrlt : r < cur.vs.length := by omega
        obtain ⟨x, hx⟩ := getElem_of_lt hrlt
        obtain ⟨bx, ox, ep, d0, d1, d2⟩ := vals_at' hcv hx
        rw [ep] at a_q0
        obtain ⟨q, hq⟩ : ∃ q, (!decide (x = v)) = q := ⟨_, rfl⟩
        have hqr : ∀ w, (binOp .neq 58 (.agg #[.int .i64 x.t, .int .i64 x.n, strV x.s]) (.agg #[.int .i64 v.t, .int .i64 v.n, strV v.s])).run Tryd.prog w = .ok (.bool q) w := fun w => by rw [← hq]; exact run_neq_vl x v w
        have hgd := run_guard_vl .neq
        have HQ := Lib.hid hq
        have HX := Lib.hid hx
        obtain ⟨nv, hnv⟩ : ∃ n, cur.vs.length = n := ⟨_, rfl⟩
        rw [hnv] at hrlt a_q0
        have he : (((r : Nat) : Int) == ((nv : Nat) : Int)) = false := by rw [beq_eq_false_iff_ne]; omega
        have hrz : ((r : Nat) : Int) < ((nv : Nat) : Int) := by omega
        clear hre hrl hq hx
        unfold strV at hqr
        unfold strV at d2
        have a_d0 := AftB.cell d0
        have a_d1 := AftB.cell d1
        have a_d2 := AftB.cell d2
        clear d0 d1 d2 hcv
        go_upto_region 5 with fail
        refine wp_region_aftB (by kernel_rfl) (by kernel_rfl) ?_
        repeat (go_big_quiet_step (fail))
        refine wpQuiet_nil ?_
        intro w6 B6
        clear a_z0 a_z1 a_z2 a_q0 a_d0 a_d1 a_d2 hqr hgd
        cases q with
        | true =>
          have RES := Lib.hid (NONE.out (by rw [HX.out]; intro e; injection e with e; have := HQ.out; rw [e] at this; simp at this))
          replace C4B := C4B.keep B6
          have x0 := C4B.at_ (j := 0) rfl
          have x1 := C4B.at_ (j := 1) rfl
          have x2 := C4B.at_ (j := 2) rfl
          have e0 := C4B.free 0
          have e1 := C4B.free 1
          have e2 := C4B.free 2
          have Y := ((C4B.set 0 (.slice none 0 0)).set 1 (.slice none 0 0)).set 2 (.slice none 0 0)
          have BY := ((BW.trans (B6.mono BW.size)).setCell (p := ⟨b4, 0, none⟩) h4w (.slice none 0 0)).setCell (p := ⟨b4, 1, none⟩) h4w (.slice none 0 0) |>.setCell (p := ⟨b4, 2, none⟩) h4w (.slice none 0 0)
          obtain ⟨wZ, hwZ⟩ : ∃ z, ((w6.setCell ⟨b4, 0, none⟩ (.slice none 0 0)).setCell ⟨b4, 1, none⟩ (.slice none 0 0)).setCell ⟨b4, 2, none⟩ (.slice none 0 0) = z := ⟨_, rfl⟩
          rw [hwZ] at Y BY
          have v0 := Y.at_ (j := 0) rfl
          have v1 := Y.at_ (j := 1) rfl
          have v2 := Y.at_ (j := 2) rfl
          clear Y
          go_wp2
          try rw [hwZ]
          refine bodyPost_ret (v := .tuple #[.agg #[.slice none 0 0, .slice none 0 0, .slice none 0 0], .bool false]) (by simp [results, Tryd.results54, go_sem, v0, v1, v2]) rfl ?_
          exact ⟨noTr, false, rfl, noTr_ok _, noTr_sq, Lib.hid ⟨RES.out, fun _ => rfl⟩, Lib.hid (fun W _ => noTr_ok W), BY⟩
        | false =>
          have hxv : x = v := by have := HQ.out; simpa using this
          subst hxv
          replace C2B := C2B.keep B6
          replace C4B := C4B.keep B6
          have B7 := BW.trans (B6.mono BW.size)
          have hke : cur.ks.length = cur.vs.length := by have := hsq.eq; rwa [TR.tr_vs, TR.tr_ks, List.length_map] at this
          obtain ⟨k, hk⟩ := getElem_of_lt (l := cur.ks) (i := r) (by omega)
          obtain ⟨bk, ok, ek, k0, k1, k2, -⟩ := (hcur.keep B7).tries.at_ hk
          have hkm := List.mem_of_getElem? hk
          have hkt := hcur.sub k hkm
          have hks := hsq.sub k.tr (by rw [TR.tr_ks]; exact List.mem_map_of_mem hkm)
          have VN := Lib.hid (fun qq => SOME.out k qq HX.out hk)
          have DN := Lib.hid (show ∀ W, TrOk W t → TrOk W k from fun W h => (D.out W h).sub k hkm)
          have x1 := C2B.at_ (j := 1) rfl
          unfold TR.kv at x1
          rw [ek] at x1
          obtain ⟨nk, hnk⟩ : ∃ n, cur.ks.length = n := ⟨_, rfl⟩
          rw [hnk] at x1 hke
          have hrk : ((r : Nat) : Int) < ((nk : Nat) : Int) := by omega
          have x0 := C2B.at_ (j := 0) rfl
          have x2 := C2B.at_ (j := 2) rfl
          have e0 := C2B.free 0
          have e1 := C2B.free 1
          have e2 := C2B.free 2
          have Y := ((C2B.set 0 k.vv).set 1 k.kv).set 2 k.wv
          have YO := ((C4B.other (p := ⟨b2, 0, none⟩) h42 k.vv).other (p := ⟨b2, 1, none⟩) h42 k.kv).other (p := ⟨b2, 2, none⟩) h42 k.wv
          have BY := ((B7.setCell (p := ⟨b2, 0, none⟩) h2w k.vv).setCell (p := ⟨b2, 1, none⟩) h2w k.kv).setCell (p := ⟨b2, 2, none⟩) h2w k.wv
          obtain ⟨wZ, hwZ⟩ : ∃ z, ((w6.setCell ⟨b2, 0, none⟩ k.vv).setCell ⟨b2, 1, none⟩ k.kv).setCell ⟨b2, 2, none⟩ k.wv = z := ⟨_, rfl⟩
          rw [hwZ] at Y YO BY
          clear hk hnk hkm q0 q1 q2 C2B C4B hke ek NONE SOME
          go_wp2
          go_roundg (p.length - (i + 1))
          case measure => omega
          case rel =>
            refine ⟨i + 1, k, by go_num, hlt, Nat.le_refl _, ?_, ?_, hkt, hks, VN, DN, ?_⟩
            · try rw [hwZ]
              exact Y
            · try rw [hwZ]
              exact YO
            · try rw [hwZ]
              exact BY
    · have hltz : ¬ (i : Int) < (p.length : Int) := by omega
      have RES := Lib.hid (V.out (some cur.tr) (by rw [List.drop_of_length_le (by omega)]; rfl))
      have q0 := C2.at_ (j := 0) rfl
      have q1 := C2.at_ (j := 1) rfl
      have q2 := C2.at_ (j := 2) rfl
      have x0 := C4.at_ (j := 0) rfl
      have x1 := C4.at_ (j := 1) rfl
      have x2 := C4.at_ (j := 2) rfl
      have e0 := C4.free 0
      have e1 := C4.free 1
      have e2 := C4.free 2
      have Y := ((C4.set 0 cur.vv).set 1 cur.kv).set 2 cur.wv
      have BY := ((B.setCell (p := ⟨b4, 0, none⟩) h4w cur.vv).setCell (p := ⟨b4, 1, none⟩) h4w cur.kv).setCell (p := ⟨b4, 2, none⟩) h4w cur.wv
      obtain ⟨wZ, hwZ⟩ : ∃ z, ((wr.setCell ⟨b4, 0, none⟩ cur.vv).setCell ⟨b4, 1, none⟩ cur.kv).setCell ⟨b4, 2, none⟩ cur.wv = z := ⟨_, rfl⟩
      rw [hwZ] at Y BY
      have v0 := Y.at_ (j := 0) rfl
      have v1 := Y.at_ (j := 1) rfl
      have v2 := Y.at_ (j := 2) rfl
      clear Y C2 C4
      go_wp2
      try rw [hwZ]
      refine bodyPost_ret (v := .tuple #[.agg #[cur.vv, cur.kv, cur.wv], .bool true]) (by simp [results, Tryd.results54, go_sem, v0, v1, v2]) rfl ?_
      exact ⟨cur, true, rfl, hcur.keep BY, hsq, Lib.hid ⟨RES.out, fun h => by cases h⟩, D, BY⟩
theorem Sub_any (t : TR) (vp : Value) (p : List Vl) (w : World) (ht : TrOk w t) (hq : Sq t.tr) (hp : IsVals w vp p) : Calls Tryd.prog 54 #[trV t, vp] w (SubRet t.tr p w) :=
  (SubD_any t vp p w ht hq hp).mono fun _ _ ⟨x, ok, h1, h2, h3, h4, _, h5⟩ => ⟨x, ok, h1, h2, h3, h4, h5⟩
end Go.Proofs.YtdibijhaiaiifaaDoor
/- The walk of Valid. -/
namespace Go.Proofs.YtdibijhaiaiifaaDoor
open Go.RowKit
/-- A trie of a size that Go's numbers hold, all the way down. -/
inductive Lim : Tr → Prop
  | mk (t : Tr) : t.vs.length + t.s.length + t.ks.length ≤ 100000 → (∀ k ∈ t.ks, Lim k) → Lim t
theorem Lim.len {t : Tr} (h : Lim t) : t.vs.length + t.s.length + t.ks.length ≤ 100000 := by cases h; assumption
theorem Lim.sub {t : Tr} (h : Lim t) : ∀ k ∈ t.ks, Lim k := by cases h; assumption
def emptyB (t : Tr) : Bool := decide (t.vs.length + t.s.length = 0)
def incAt (vs : List Vl) (j : Nat) : Bool := decide (j = 0) || (match vs[j - 1]?, vs[j]? with | some a, some b => decide (cmpV a b < 0) | _, _ => true)
def okK (V : Tr → Bool) (vs : List Vl) (ks : List Tr) (j : Nat) : Bool := incAt vs j && (match ks[j]? with | some k => !emptyB k && V k | none => true)
/-- What Valid answers. -/
def validT : Nat → Tr → Bool
  | 0, t => decide (t.vs.length + t.ks.length = 0) && decide (t.s = canon (setOf t.s))
  | n + 1, t => decide (t.s.length = 0) && decide (t.ks.length = t.vs.length) && (List.range t.ks.length).all (okK (validT n) t.vs t.ks)
def validC (columns : Int) (t : Tr) : Bool := if 0 ≤ columns ∧ columns ≤ 4 then validT columns.toNat t else false
def ValC (n : Nat) : Prop := ∀ (t : TR) (w : World), Tab w → TrOk w t → Lim t.tr → Calls Tryd.prog 60 #[.int .i64 n, trV t] w fun e w' => e = .returned (.bool (validT n t.tr)) ∧ Below w.heap.size w w'
theorem Valid_aftB {W : World} {l : List Sp} {v : Value} {b : Bool} (hT : Tab W) (h : IsSpans W v l) (hb : decide (l = canon (setOf l)) = b) (p : AftB W) : Calls Tryd.prog 72 #[v] p.w' fun e w'' => e = .returned (.bool b) ∧ ∃ q : AftB W, w'' = q.w' := by
  subst hb
  exact AftB.call (Valid_any v l p.w' (hT.keep p.ok) (h.keep p.ok))
set_option maxHeartbeats 4000000 in
set_option maxRecDepth 1000000 in
theorem valid_zero : ValC 0 := by
  intro t w hT ht hl
  have hl9 := hl.len
  rw [TR.tr_vs, TR.tr_s, TR.tr_ks, List.length_map] at hl9
  obtain ⟨q, hq⟩ : ∃ q, decide (t.vs.length + t.ks.length = 0) = q := ⟨_, rfl⟩
  obtain ⟨q', hq'⟩ : ∃ q', decide (t.s = canon (setOf t.s)) = q' := ⟨_, rfl⟩
  have RES := Lib.hid (show validT 0 t.tr = (q && q') by unfold validT; rw [TR.tr_vs, TR.tr_s, TR.tr_ks, List.length_map, hq, hq'])
  rw [RES.out]
  clear RES hl
  have hqi : (((t.vs.length : Int) + (t.ks.length : Int)) == 0) = q := by rw [← hq, Bool.eq_iff_iff, beq_iff_eq, decide_eq_true_iff]; omega
  clear hq
  unfold trV
  have BA := below_new w (.cells #[t.vv, t.kv, t.wv] 64)
  have X := Cel.new w 64 [t.vv, t.kv, t.wv]
  obtain ⟨wA, hwA⟩ : ∃ z, w.alloc (.cells #[t.vv, t.kv, t.wv] 64) = z := ⟨_, rfl⟩
  rw [hwA] at X BA
  have q0 := X.at_ (j := 0) rfl
  have q1 := X.at_ (j := 1) rfl
  have q2 := X.at_ (j := 2) rfl
  replace hT := hT.keep BA
  have hs := ht.spans.keep BA
  clear ht
  obtain ⟨vw, hvw⟩ : ∃ v, t.wv = v := ⟨_, rfl⟩
  obtain ⟨nv, hnv⟩ : ∃ n, t.vs.length = n := ⟨_, rfl⟩
  obtain ⟨nk, hnk⟩ : ∃ n, t.ks.length = n := ⟨_, rfl⟩
  rw [hvw] at q2 hs
  unfold TR.vv at q0
  unfold TR.kv at q1
  rw [hnv] at q0 hl9 hqi
  rw [hnk] at q1 hl9 hqi
  clear X hvw hnv hnk
  cases q with
  | true =>
    go_enter Tryd.func60, Tryd.ntmps60
    go_wp2_with fail
    refine (Valid_any vw t.s _ hT hs).mono ?_
    rintro e w2 ⟨rfl, B2⟩
    rw [hq']
    go_wp2
    go_ret
    exact ⟨by simp, below_trans BA B2⟩
  | false =>
    go_enter Tryd.func60, Tryd.ntmps60
    go_wp2
    go_ret
    exact ⟨by simp, BA⟩
theorem emptyB_tr (t : TR) : emptyB t.tr = decide (t.vs.length + t.s.length = 0) := by unfold emptyB; rw [TR.tr_vs, TR.tr_s]
theorem empty_aftB {W : World} {t : TR} {b : Bool} {v1 v2 v3 : Value} (h1 : t.vv = v1) (h2 : t.kv = v2) (h3 : t.wv = v3) (hl : t.vs.length + t.s.length ≤ 1000000000) (hb : emptyB t.tr = b) (p : AftB W) : Calls Tryd.prog 109 #[.agg #[v1, v2, v3]] p.w' fun e w'' => e = .returned (.bool b) ∧ ∃ q : AftB W, w'' = q.w' := by
  subst hb h1 h2 h3
  rw [emptyB_tr]
  exact AftB.call (empty_any t p.w' hl)
theorem compare_aftB {W : World} {x y : Vl} {r : Int} (hr : cmpV x y = r) (p : AftB W) : Calls Tryd.prog 67 #[.agg #[.int .i64 x.t, .int .i64 x.n, .string ⟨x.s.toArray⟩], .agg #[.int .i64 y.t, .int .i64 y.n, .string ⟨y.s.toArray⟩]] p.w' fun e w'' => e = .returned (.int .i64 r) ∧ ∃ q : AftB W, w'' = q.w' := by
  subst hr
  exact AftB.call ((Compare_any x y p.w').mono fun e w' h => ⟨h.1, h.2.below⟩)
theorem validT_succ (n : Nat) (t : Tr) : validT (n + 1) t = (decide (t.s.length = 0) && decide (t.ks.length = t.vs.length) && (List.range t.ks.length).all (okK (validT n) t.vs t.ks)) := rfl
theorem validT_bad1 {n : Nat} {t : Tr} (h : ¬ t.s.length = 0) : validT (n + 1) t = false := by rw [validT_succ, decide_eq_false h]; rfl
theorem validT_bad2 {n : Nat} {t : Tr} (h : ¬ t.ks.length = t.vs.length) : validT (n + 1) t = false := by rw [validT_succ, decide_eq_false h, Bool.and_false]; rfl
theorem validT_bad3 {n i : Nat} {t : Tr} (hi : i < t.ks.length) (h : okK (validT n) t.vs t.ks i = false) : validT (n + 1) t = false := by
  rw [validT_succ, Bool.and_eq_false_iff]
  refine .inr ?_
  rw [List.all_eq_false]
  exact ⟨i, List.mem_range.2 hi, by rw [h]; simp⟩
theorem validT_good {n : Nat} {t : Tr} (h1 : t.s.length = 0) (h2 : t.ks.length = t.vs.length) (h : ∀ j, j < t.ks.length → okK (validT n) t.vs t.ks j = true) : validT (n + 1) t = true := by
  rw [validT_succ, decide_eq_true h1, decide_eq_true h2]
  simp only [Bool.true_and, List.all_eq_true]
  exact fun j hj => h j (List.mem_range.1 hj)
set_option maxHeartbeats 4000000 in
set_option maxRecDepth 1000000 in
theorem valid_succ (n : Nat) (hn : n + 1 ≤ 4) (IH : ValC n) : ValC (n + 1) := by
  intro t w hT ht hl
  have hl9 := hl.len
  rw [TR.tr_vs, TR.tr_s, TR.tr_ks, List.length_map] at hl9
  have HB1 := Lib.hid (fun h => validT_bad1 (n := n) (t := t.tr) (by rw [TR.tr_s]; exact h))
  have HB2 := Lib.hid (fun h => validT_bad2 (n := n) (t := t.tr) (by rw [TR.tr_ks, TR.tr_vs, List.length_map]; exact h))
  have HB3 := Lib.hid (show ∀ i, i < t.ks.length → okK (validT n) t.tr.vs t.tr.ks i = false → validT (n + 1) t.tr = false from fun i hi h => validT_bad3 (by rw [TR.tr_ks, List.length_map]; exact hi) h)
  have HG := Lib.hid (show t.s.length = 0 → t.ks.length = t.vs.length → (∀ j, j < t.ks.length → okK (validT n) t.tr.vs t.tr.ks j = true) → validT (n + 1) t.tr = true from fun h1 h2 h => validT_good (by rw [TR.tr_s]; exact h1) (by rw [TR.tr_ks, TR.tr_vs, List.length_map]; exact h2) (fun j hj => h j (by rwa [TR.tr_ks, List.length_map] at hj)))
  obtain ⟨m, hm⟩ : ∃ m : Int, ((n + 1 : Nat) : Int) = m := ⟨_, rfl⟩
  rw [hm]
  have m0 : ¬ m < 0 := by omega
  have m4 : ¬ 4 < m := by omega
  have me : (m == 0) = false := by rw [beq_eq_false_iff_ne]; omega
  have mp : m - 1 = (n : Int) := by omega
  have mw : IntKind.i64.wrap (n : Int) = (n : Int) := by rw [IntKind.wrap_i64]; omega
  clear hm
  unfold trV
  have BA := below_new w (.cells #[t.vv, t.kv, t.wv] 64)
  have X := Cel.new w 64 [t.vv, t.kv, t.wv]
  obtain ⟨wA, hwA⟩ : ∃ z, w.alloc (.cells #[t.vv, t.kv, t.wv] 64) = z := ⟨_, rfl⟩
  rw [hwA] at X BA
  have q0 := X.at_ (j := 0) rfl
  have q1 := X.at_ (j := 1) rfl
  have q2 := X.at_ (j := 2) rfl
  replace hT := hT.keep BA
  replace ht := ht.keep BA
  have hvs := ht.vals
  have hks := ht.tries
  clear ht
  unfold TR.vv at q0 hvs
  unfold TR.kv at q1 hks
  unfold TR.wv at q2
  obtain ⟨ns, hns⟩ : ∃ n, t.s.length = n := ⟨_, rfl⟩
  rw [hns] at q2 hl9
  have HNS := Lib.hid hns
  clear X hns
  by_cases hs0 : 0 < ns
  · have hs1 : (0 : Int) < (ns : Int) := by omega
    have RES := Lib.hid (HB1.out (by rw [HNS.out]; omega))
    rw [RES.out]
    clear hs0
    go_enter Tryd.func60, Tryd.ntmps60
    go_wp2
    go_ret
    exact ⟨rfl, BA⟩
  have hs0 : ns = 0 := by omega
  subst hs0
  by_cases hkv : t.ks.length = t.vs.length
  case neg =>
    have RES := Lib.hid (HB2.out hkv)
    rw [RES.out]
    obtain ⟨nv, hnv⟩ : ∃ n, t.vs.length = n := ⟨_, rfl⟩
    obtain ⟨nk, hnk⟩ : ∃ n, t.ks.length = n := ⟨_, rfl⟩
    rw [hnv] at q0
    rw [hnk] at q1
    rw [hnv, hnk] at hkv
    have hk1 : ((nk : Int) != (nv : Int)) = true := by rw [bne_iff_ne]; omega
    clear hnv hnk hl9 hvs hks hkv
    go_enter Tryd.func60, Tryd.ntmps60
    go_wp2
    go_ret
    exact ⟨rfl, BA⟩
  have HKV := Lib.hid hkv
  have hk1 : ((t.ks.length : Int) != (t.vs.length : Int)) = false := by rw [bne_eq_false_iff_eq]; omega
  obtain ⟨b3, hb3⟩ : ∃ b, w.heap.size = b := ⟨_, rfl⟩
  rw [hb3] at q0 q1 q2
  clear hkv
  go_enter Tryd.func60, Tryd.ntmps60
  rw [hb3]
  go_wp2
  go_loopg [47] t.ks.length (fun g vi wr => ∃ (i : Nat), vi = .int .i64 i ∧ i ≤ t.ks.length ∧ t.ks.length - i ≤ g ∧ Hid (∀ j, j < i → okK (validT n) t.tr.vs t.tr.ks j = true) ∧ Below wA.heap.size wA wr)
  case atStart => exact ⟨0, rfl, Nat.zero_le _, Nat.le_refl _, Lib.hid (fun j hj => by omega), Below.refl _ _⟩
  case round =>
    obtain ⟨i, rfl, hi, hg, V, B⟩ := hrel
    by_cases hlt : i < t.ks.length
    · have hltz : (i : Int) < (t.ks.length : Int) := by omega
      have hltv : (i : Int) < (t.vs.length : Int) := by rw [← HKV.out]; exact hltz
      obtain ⟨k, hk⟩ := getElem_of_lt hlt
      obtain ⟨y, hy⟩ := getElem_of_lt (l := t.vs) (i := i) (by rw [← HKV.out]; exact hlt)
      obtain ⟨bk, ok, ek, k0, k1, k2, hkt⟩ := (hks.keep B).at_ hk
      obtain ⟨bv, ov, ev, d0, d1, d2⟩ := vals_at' (hvs.keep B) hy
      have hkm := List.mem_of_getElem? hk
      have HLK := Lib.hid (hl.sub k.tr (by rw [TR.tr_ks]; exact List.mem_map_of_mem hkm))
      have HOK := Lib.hid (show okK (validT n) t.tr.vs t.tr.ks i = (incAt t.vs i && (!emptyB k.tr && validT n k.tr)) by unfold okK; rw [TR.tr_vs, TR.tr_ks, List.getElem?_map, hk]; rfl)
      have HBAD := Lib.hid (show okK (validT n) t.tr.vs t.tr.ks i = false → validT (n + 1) t.tr = false from HB3.out i hlt)
      have HNEXT := Lib.hid (show okK (validT n) t.tr.vs t.tr.ks i = true → ∀ j, j < i + 1 → okK (validT n) t.tr.vs t.tr.ks j = true from fun h j hj => by
        rcases Nat.lt_or_eq_of_le (Nat.le_of_lt_succ hj) with hj | rfl
        · exact V.out j hj
        · exact h)
      have q0' := cell_keep B q0
      have q1' := cell_keep B q1
      rw [ev] at q0'
      rw [ek] at q1'
      obtain ⟨wC, hwC⟩ : ∃ z, wr.alloc (.cells #[.slice none 0 0, .slice none 0 0, .slice none 0 0] 64) = z := ⟨_, rfl⟩
      have BC : Below wr.heap.size wr wC := by rw [← hwC]; exact below_new _ _
      have XC : Cel wC wr.heap.size 64 [.slice none 0 0, .slice none 0 0, .slice none 0 0] := by rw [← hwC]; exact Cel.new wr 64 _
      obtain ⟨b6, hb6⟩ : ∃ b, wr.heap.size = b := ⟨_, rfl⟩
      rw [hb6] at XC BC
      have y0 := XC.at_ (j := 0) rfl
      have y1 := XC.at_ (j := 1) rfl
      have y2 := XC.at_ (j := 2) rfl
      have f0 := XC.free 0
      have f1 := XC.free 1
      have f2 := XC.free 2
      have Z := ((XC.set 0 k.vv).set 1 k.kv).set 2 k.wv
      have BZ := ((BC.setCell (p := ⟨b6, 0, none⟩) (Nat.le_refl _) k.vv).setCell (p := ⟨b6, 1, none⟩) (Nat.le_refl _) k.kv).setCell (p := ⟨b6, 2, none⟩) (Nat.le_refl _) k.wv
      obtain ⟨wB, hwB⟩ : ∃ z, ((wC.setCell ⟨b6, 0, none⟩ k.vv).setCell ⟨b6, 1, none⟩ k.kv).setCell ⟨b6, 2, none⟩ k.wv = z := ⟨_, rfl⟩
      rw [hwB] at Z BZ
      rw [← hb6] at BZ
      have z0 := Z.at_ (j := 0) rfl
      have z1 := Z.at_ (j := 1) rfl
      have z2 := Z.at_ (j := 2) rfl
      have BB := B.trans (BZ.mono B.size)
      obtain ⟨e, he⟩ : ∃ e, emptyB k.tr = e := ⟨_, rfl⟩
      obtain ⟨vk, hvk⟩ : ∃ e, validT n k.tr = e := ⟨_, rfl⟩
      have HLE := Lib.hid (show k.vs.length + k.s.length ≤ 1000000000 by have := HLK.out.len; rw [TR.tr_vs, TR.tr_s] at this; omega)
      have hIH : ∀ p : AftB wB, Calls Tryd.prog 60 #[.int .i64 n, .agg #[k.vv, k.kv, k.wv]] p.w' fun e w'' => e = .returned (.bool vk) ∧ ∃ q : AftB wB, w'' = q.w' := fun p => AftB.call (by
        have h := IH k p.w' ((hT.keep BB).keep p.ok) ((hkt.keep (BZ.mono (Nat.le_refl _))).keep p.ok) HLK.out
        unfold trV at h
        rw [hvk] at h
        exact h)
      have HE := Lib.hid he
      have HVK := Lib.hid hvk
      have a_z0 := AftB.cell z0
      have a_z1 := AftB.cell z1
      have a_z2 := AftB.cell z2
      have hBZ : Below wr.heap.size wr wB := BZ
      have a_q0 := AftB.cell (cell_keep hBZ q0')
      have HY := Lib.hid hy
      unfold strV at d2
      have a_d0 := AftB.cell (cell_keep hBZ d0)
      have a_d1 := AftB.cell (cell_keep hBZ d1)
      have a_d2 := AftB.cell (cell_keep hBZ d2)
      have HI' := Lib.hid hi
      have HB6 := Lib.hid hb6
      clear he hvk HLK hkm hkt hk Z XC BC hy hi
      by_cases hi0 : i = 0
      · subst hi0
        have HI := Lib.hid (show incAt t.vs 0 = true from rfl)
        clear q0' hBZ
        simp only [Nat.zero_mul, Nat.add_zero] at k0 k1 k2
        cases e with
        | true =>
          go_upto_region 10 with fail
          refine wp_region_aftB (by kernel_rfl) (by kernel_rfl) ?_
          repeat (go_big_quiet_step ((first | exact compare_aftB HR.out _ | exact empty_aftB (t := k) rfl rfl rfl HLE.out HE.out _ | exact hIH _)))
          refine wpQuiet_nil ?_
          intro w7 B7
          clear a_z0 a_z1 a_z2 a_q0 a_d0 a_d1 a_d2 hIH y0 y1 y2 f0 f1 f2 k0 k1 k2 q1' d0 d1 d2 hwC hwB 
          have RES := Lib.hid (HBAD.out (by rw [HOK.out, HI.out, HE.out]; simp))
          go_wp2
          go_ret
          exact ⟨by rw [RES.out]; rfl, by have := below_trans BA (BB.trans (B7.mono BB.size)); rwa [hb3] at this⟩
        | false =>
          go_upto_region 10 with fail
          refine wp_region_aftB (by kernel_rfl) (by kernel_rfl) ?_
          repeat (go_big_quiet_step ((first | exact compare_aftB HR.out _ | exact empty_aftB (t := k) rfl rfl rfl HLE.out HE.out _ | exact hIH _)))
          refine wpQuiet_nil ?_
          intro w7 B7
          clear a_z0 a_z1 a_z2 a_q0 a_d0 a_d1 a_d2 hIH y0 y1 y2 f0 f1 f2 k0 k1 k2 q1' d0 d1 d2 hwC hwB 
          cases vk with
          | true =>
            have VN := Lib.hid (HNEXT.out (by rw [HOK.out, HI.out, HE.out, HVK.out]; simp))
            have B8 := BB.trans (B7.mono BB.size)
            go_wp2
            skip
            go_roundg (t.ks.length - (0 + 1))
            case measure => omega
            case rel => exact ⟨0 + 1, by go_num, hlt, Nat.le_refl _, VN, B8⟩
          | false =>
            have RES := Lib.hid (HBAD.out (by rw [HOK.out, HI.out, HE.out, HVK.out]; simp))
            go_wp2
            go_ret
            exact ⟨by rw [RES.out]; rfl, by have := below_trans BA (BB.trans (B7.mono BB.size)); rwa [hb3] at this⟩
      · have hip : (0 : Int) < (i : Int) := by omega
        have hip' : 0 < i := by omega
        obtain ⟨i', hi'⟩ : ∃ i', i = i' + 1 := ⟨i - 1, by omega⟩
        have hi1 : (i : Int) - 1 = (i' : Int) := by omega
        have hi2 : (i' : Int) < (t.vs.length : Int) := by omega
        have hwi : IntKind.i64.wrap (i' : Int) = (i' : Int) := by rw [IntKind.wrap_i64]; omega
        obtain ⟨x, hx⟩ := getElem_of_lt (l := t.vs) (i := i') (by omega)
        obtain ⟨bv', ov', ev', c0, c1, c2⟩ := vals_at' (hvs.keep (B.trans (hBZ.mono B.size))) hx
        rw [ev] at ev'
        cases ev'
        unfold strV at c2
        have a_c0 := AftB.cell c0
        have a_c1 := AftB.cell c1
        have a_c2 := AftB.cell c2
        obtain ⟨r, hr⟩ : ∃ r, cmpV x y = r := ⟨_, rfl⟩
        have HR := Lib.hid hr
        have HI := Lib.hid (show incAt t.vs i = decide (r < 0) by unfold incAt; rw [decide_eq_false hi0, Bool.false_or, show i - 1 = i' from by omega, hx, HY.out, ← hr])
        have HII := Lib.hid hi'
        clear hr hx hi' c0 c1 c2 q0' hBZ
        by_cases hr0 : 0 ≤ r
        · have hrd : decide (r < 0) = false := decide_eq_false (by omega)
          rw [hrd] at HI
          clear hrd
          go_upto_region 10 with fail
          refine wp_region_aftB (by kernel_rfl) (by kernel_rfl) ?_
          repeat (go_big_quiet_step ((first | exact compare_aftB HR.out _ | exact empty_aftB (t := k) rfl rfl rfl HLE.out HE.out _ | exact hIH _)))
          refine wpQuiet_nil ?_
          intro w7 B7
          clear a_z0 a_z1 a_z2 a_q0 a_d0 a_d1 a_d2 a_c0 a_c1 a_c2 hIH y0 y1 y2 f0 f1 f2 k0 k1 k2 q1' d0 d1 d2 hwC hwB
          have RES := Lib.hid (HBAD.out (by rw [HOK.out, HI.out]; simp))
          go_wp2
          go_ret
          exact ⟨by rw [RES.out]; rfl, by have := below_trans BA (BB.trans (B7.mono BB.size)); rwa [hb3] at this⟩
        · have hrd : decide (r < 0) = true := decide_eq_true (by omega)
          rw [hrd] at HI
          clear hrd
          cases e with
          | true =>
            go_upto_region 10 with fail
            refine wp_region_aftB (by kernel_rfl) (by kernel_rfl) ?_
            repeat (go_big_quiet_step ((first | exact compare_aftB HR.out _ | exact empty_aftB (t := k) rfl rfl rfl HLE.out HE.out _ | exact hIH _)))
            refine wpQuiet_nil ?_
            intro w7 B7
            clear a_z0 a_z1 a_z2 a_q0 a_d0 a_d1 a_d2 hIH y0 y1 y2 f0 f1 f2 k0 k1 k2 q1' d0 d1 d2 hwC hwB a_c0 a_c1 a_c2
            have RES := Lib.hid (HBAD.out (by rw [HOK.out, HI.out, HE.out]; simp))
            go_wp2
            go_ret
            exact ⟨by rw [RES.out]; rfl, by have := below_trans BA (BB.trans (B7.mono BB.size)); rwa [hb3] at this⟩
          | false =>
            go_upto_region 10 with fail
            refine wp_region_aftB (by kernel_rfl) (by kernel_rfl) ?_
            repeat (go_big_quiet_step ((first | exact compare_aftB HR.out _ | exact empty_aftB (t := k) rfl rfl rfl HLE.out HE.out _ | exact hIH _)))
            refine wpQuiet_nil ?_
            intro w7 B7
            clear a_z0 a_z1 a_z2 a_q0 a_d0 a_d1 a_d2 hIH y0 y1 y2 f0 f1 f2 k0 k1 k2 q1' d0 d1 d2 hwC hwB a_c0 a_c1 a_c2
            cases vk with
            | true =>
              have VN := Lib.hid (HNEXT.out (by rw [HOK.out, HI.out, HE.out, HVK.out]; simp))
              have B8 := BB.trans (B7.mono BB.size)
              go_wp2
              rw [← ek, ← ev]
              go_roundg (t.ks.length - (i + 1))
              case measure => omega
              case rel => exact ⟨i + 1, by go_num, hlt, Nat.le_refl _, VN, B8⟩
            | false =>
              have RES := Lib.hid (HBAD.out (by rw [HOK.out, HI.out, HE.out, HVK.out]; simp))
              go_wp2
              go_ret
              exact ⟨by rw [RES.out]; rfl, by have := below_trans BA (BB.trans (B7.mono BB.size)); rwa [hb3] at this⟩
    · have hltz : ¬ (i : Int) < (t.ks.length : Int) := by omega
      have RES := Lib.hid (HG.out HNS.out HKV.out (fun j hj => V.out j (by omega)))
      go_wp2
      go_ret
      exact ⟨by rw [RES.out]; rfl, by have := below_trans BA B; rwa [hb3] at this⟩
theorem valid_all : ∀ n : Nat, n ≤ 4 → ValC n
  | 0, _ => valid_zero
  | n + 1, h => valid_succ n h (valid_all n (by omega))
set_option maxHeartbeats 4000000 in
set_option maxRecDepth 1000000 in
theorem TValid_any (columns : Int) (t : TR) (w : World) (hT : Tab w) (ht : TrOk w t) (hl : Lim t.tr) : Calls Tryd.prog 60 #[.int .i64 columns, trV t] w fun e w' => e = .returned (.bool (validC columns t.tr)) ∧ Below w.heap.size w w' := by
  by_cases hc : 0 ≤ columns ∧ columns ≤ 4
  · obtain ⟨n, rfl⟩ : ∃ n : Nat, columns = n := ⟨columns.toNat, by omega⟩
    unfold validC
    rw [if_pos hc, Int.toNat_natCast]
    exact valid_all n (by omega) t w hT ht hl
  · unfold validC
    rw [if_neg hc]
    unfold trV
    have BA := below_new w (.cells #[t.vv, t.kv, t.wv] 64)
    obtain ⟨wA, hwA⟩ : ∃ z, w.alloc (.cells #[t.vv, t.kv, t.wv] 64) = z := ⟨_, rfl⟩
    rw [hwA] at BA
    clear ht hl hT
    by_cases hd1 : columns < 0
    · clear hc
      go_enter Tryd.func60, Tryd.ntmps60
      go_wp2
      go_ret
      exact ⟨rfl, BA⟩
    · have hd2 : 4 < columns := by omega
      clear hc
      go_enter Tryd.func60, Tryd.ntmps60
      go_wp2
      go_ret
      exact ⟨rfl, BA⟩
end Go.Proofs.YtdibijhaiaiifaaDoor
