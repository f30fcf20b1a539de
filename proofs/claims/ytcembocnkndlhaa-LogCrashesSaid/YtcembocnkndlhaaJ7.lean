/- Parts Kt, Na, Rj, Nb, Nc, Rh, Nd, Ne, Late: words, walks and laws that the claims of this seat share. -/
import Derived.Test.YtcembocnkndlhaaJ5
import Derived.Test.YtcembocnkndlhaaJ3
import Derived.Test.YtcembocnkndlhaaJ2
import Derived.Test.YtcembocnkndlhaaJ1
import Derived.Deep.QuietTactic
import Derived.BigQuiet
/- The logs' helpers: fits, open. -/
namespace Go.Proofs.Ytcembocnkndlhaa
open Go.RowKit
def fitsD (d : Dk) (r : List UInt8) : Bool := smallD d && decide (r.length ≤ 300)
set_option maxHeartbeats 4000000 in
set_option maxRecDepth 100000 in
theorem fits_any (v bv : Value) (d : Dk) (r : List UInt8) (w : World) (h : IsDisk w v d) (hb : IsBytes w bv r) :
    Calls Try.prog 40 #[v, bv] w fun e w' => e = .returned (.bool (fitsD d r)) ∧ Below w.heap.size w w' := by
  have h0 := h
  obtain ⟨pa, pc, wa, wc, rfl, -, -, m1, m2, m3⟩ := h.shape
  obtain ⟨ba, bc, rfl, -, mb⟩ := hb
  have b0 := below_new w (.cells #[.slice pa d.pages.length pc, .slice wa d.writes.length wc, .bool d.down] 25)
  have g0 := heap_alloc_new w (.cells #[.slice pa d.pages.length pc, .slice wa d.writes.length wc, .bool d.down] 25)
  obtain ⟨wb, hwb⟩ : ∃ x : World, x = w.alloc (.cells #[.slice pa d.pages.length pc, .slice wa d.writes.length wc, .bool d.down] 25) := ⟨_, rfl⟩
  rw [← hwb] at b0 g0
  cases hs : smallD d
  · have H := Lib.hid (show fitsD d r = false by unfold fitsD; rw [hs]; rfl)
    have HS := Lib.hid hs
    clear hs
    go_enter Try.func40, Try.ntmps40
    go_wp2_with fail
    rw [← hwb]
    clear hwb
    refine (Small_eq (h0.keep b0) _ HS.out).mono ?_
    rintro e w3 ⟨rfl, b3⟩
    go_wp2
    go_ret
    exact ⟨by rw [H.out]; rfl, below_trans b0 b3⟩
  · have H := Lib.hid (show fitsD d r = decide (r.length ≤ 300) by unfold fitsD; rw [hs]; rfl)
    have HS := Lib.hid hs
    obtain ⟨R, hR⟩ : ∃ R, decide (r.length ≤ 300) = R := ⟨_, rfl⟩
    have hq : decide ((r.length : Int) ≤ 300) = R := by rw [← hR]; simp only [decide_eq_decide]; omega
    have HR := Lib.hid hR
    clear hs hR
    cases R
    all_goals
      go_enter Try.func40, Try.ntmps40
      go_wp2_with fail
      rw [← hwb]
      refine (Small_eq (h0.keep b0) _ HS.out).mono ?_
      rintro e w3 ⟨rfl, b3⟩
      go_wp2
      go_ret
      exact ⟨by first | (rw [H.out, HR.out]; done) | (rw [H.out, HR.out]; rfl), below_trans b0 b3⟩
theorem IsBytes.front {w : World} {a : Option Addr} {n c : Nat} {l : List UInt8} (h : IsBytes w (.slice a n c) l) : RowsAt 1 encB w a l := by
  obtain ⟨a', c', e, hr, hb⟩ := h
  cases e
  exact hr
def openD (d : Dk) (k : Int) : Bool := decide (k = 400) || (decide (failure d k = 0) && decide ((look d k).getD 63 0 = 0))
theorem readD_off {d : Dk} {k f : Int} (h : failure d k = f) (hf : f ≠ 0) : readD d k = ([], f) := by unfold readD; rw [if_pos (by omega), h]
theorem readD_on {d : Dk} {k : Int} (h : failure d k = 0) : readD d k = (look d k, 0) := by unfold readD; rw [if_neg (by omega)]
set_option maxHeartbeats 4000000 in
set_option maxRecDepth 100000 in
theorem open_any (v : Value) (d : Dk) (k : Int) (w : World) (h : IsDisk w v d) :
    Calls Try.prog 54 #[v, .int .i64 k] w fun e w' => e = .returned (.bool (openD d k)) ∧ Below w.heap.size w w' := by
  have h0 := h
  obtain ⟨pa, pc, wa, wc, rfl, -, -, m1, m2, m3⟩ := h.shape
  have b0 := below_new w (.cells #[.slice pa d.pages.length pc, .slice wa d.writes.length wc, .bool d.down] 25)
  have g0 := heap_alloc_new w (.cells #[.slice pa d.pages.length pc, .slice wa d.writes.length wc, .bool d.down] 25)
  obtain ⟨wb, hwb⟩ : ∃ x : World, x = w.alloc (.cells #[.slice pa d.pages.length pc, .slice wa d.writes.length wc, .bool d.down] 25) := ⟨_, rfl⟩
  rw [← hwb] at b0 g0
  obtain ⟨y0, y1, y2, -, -, -⟩ := Box3.of g0
  by_cases hf : failure d k = 0
  · have HR := Lib.hid (readD_on hf)
    have hk : k < 400 := (failure_zero hf).2.2.2
    have hk0 : 0 ≤ k := (failure_zero hf).2.2.1
    have hlen := length_look d k
    obtain ⟨l, hl⟩ : ∃ l, look d k = l := ⟨_, rfl⟩
    rw [hl] at HR hlen
    obtain ⟨c, hc⟩ : ∃ c, l.getD 63 0 = c := ⟨_, rfl⟩
    have hg : l[63]? = some c := by
      rw [List.getD_eq_getElem?_getD] at hc
      rw [List.getElem?_eq_getElem (by omega)] at hc ⊢
      exact congrArg some hc
    obtain ⟨R, hRR⟩ : ∃ R, decide (c = 0) = R := ⟨_, rfl⟩
    have H := Lib.hid (show openD d k = R by unfold openD; rw [hl, hc, hf, hRR]; simp; omega)
    have hq : ((c.toNat : Int) == 0) = R := by
      rw [← hRR]
      by_cases e : c = 0
      · subst e; rfl
      · rw [decide_eq_false e, beq_eq_false_iff_ne]
        intro h
        exact e (UInt8.toNat_inj.1 (by simpa using h))
    have hne : (k == 400) = false := by rw [beq_eq_false_iff_ne]; omega
    have hln : ((l.length : Int) == 64) = true := by rw [hlen]; rfl
    have hlt : 63 < l.length := by omega
    have HX := Lib.hid hlen
    clear hl hc hRR hf hlen
    cases R
    all_goals
      go_enter Try.func54, Try.ntmps54
      go_wp2_with fail
      rw [← hwb]
      clear hwb
      refine (Read_any _ d k _ (h0.keep b0)).mono ?_
      intro e w3 hres
      obtain ⟨a, c', rfl, t3, b3⟩ := hres.to HR
      obtain ⟨b, off, ha, hcell⟩ := (t3.front).one hg rfl
      subst ha
      go_wp2
      go_ret
      exact ⟨by first | (rw [H.out]; done) | (rw [H.out]; rfl), below_trans b0 b3⟩
  · obtain ⟨f, hff⟩ : ∃ f, failure d k = f := ⟨_, rfl⟩
    have HR := Lib.hid (readD_off hff (by omega))
    have hq : (f == 0) = false := by rw [beq_eq_false_iff_ne]; omega
    by_cases hk : k = 400
    · have H := Lib.hid (show openD d k = true by unfold openD; rw [decide_eq_true hk]; rfl)
      have hk4 : (k == 400) = true := by rw [hk]; rfl
      clear hk hff hf
      go_enter Try.func54, Try.ntmps54
      go_wp2_with fail
      rw [← hwb]
      clear hwb
      refine (Read_any _ d k _ (h0.keep b0)).mono ?_
      intro e w3 hres
      obtain ⟨a, c', rfl, t3, b3⟩ := hres.to HR
      go_wp2
      go_ret
      exact ⟨by first | (rw [H.out]; done) | (rw [H.out]; rfl), below_trans b0 b3⟩
    · have H := Lib.hid (show openD d k = false by unfold openD; rw [decide_eq_false hk, decide_eq_false hf]; rfl)
      have hk4 : (k == 400) = false := by rw [beq_eq_false_iff_ne]; exact hk
      clear hk hff hf
      go_enter Try.func54, Try.ntmps54
      go_wp2_with fail
      rw [← hwb]
      clear hwb
      refine (Read_any _ d k _ (h0.keep b0)).mono ?_
      intro e w3 hres
      obtain ⟨a, c', rfl, t3, b3⟩ := hres.to HR
      go_wp2
      go_ret
      exact ⟨by first | (rw [H.out]; done) | (rw [H.out]; rfl), below_trans b0 b3⟩
end Go.Proofs.Ytcembocnkndlhaa
/- The reference's small functions of logs: Sum, pages, Pages, four, number. -/
namespace Go.Proofs.Ytcembocnkndlhaa
open Go.RowKit
set_option maxHeartbeats 2000000 in
set_option maxRecDepth 100000 in
theorem rSum_any (v : Value) (l : List UInt8) (w : World) (h : IsBytes w v l) : Calls Try.prog 52 #[v] w fun e w' => e = .returned (.int .u32 (sumN l)) ∧ w = w' := by
  have h0 := h
  obtain ⟨a, c, rfl, -, hm⟩ := h
  go_enter Try.func52, Try.ntmps52
  go_wp2
  go_loop [3, 4] (fun hv i => ∃ k : Nat, k ≤ l.length ∧ i = .int .i64 k ∧ hv = .int .u32 (sumN (l.take k))) (fun _ i => l.length - (intOf i).toNat)
  case atStart => exact ⟨0, Nat.zero_le _, rfl, rfl⟩
  case round =>
    obtain ⟨k, hk, rfl, rfl⟩ := hrel
    by_cases hlt : k < l.length
    · have hd : decide (k < l.length) = true := decide_eq_true hlt
      obtain ⟨b, off, rfl, hc⟩ := h0.at_ (List.getElem?_eq_getElem hlt)
      have HS := Lib.hid (sumN_take hlt)
      have hs := sumN_lt (l.take k)
      unfold two32 at hs
      generalize l[k] = x at *
      generalize sumN (l.take k) = s at *
      have hx8 : x.toNat < 256 := x.toNat_lt
      have HX := bits_xor_u32n s x.toNat hs (by omega)
      have hlx : s ^^^ x.toNat < 4294967296 := xor_lt (h := s) (c := x) hs
      have HV := Lib.hid (show ((s ^^^ x.toNat : Nat) : Int) * 16777619 % 4294967296 = (sumStep s x : Int) by unfold sumStep two32; omega)
      have hkI : (k : Int) < (l.length : Int) := by omega
      have hk0 : (0 : Int) ≤ (k : Int) := by omega
      have hwx : IntKind.u32.wrap (x.toNat : Int) = (x.toNat : Int) := by simp only [wrap_u32n]; omega
      generalize s ^^^ x.toNat = y at *
      go_wp2
      go_round
      case rel => exact ⟨k + 1, by omega, by go_num, by rw [HS.out, ← HV.out]⟩
      case measure => simp [intOf]; omega
    · have e : k = l.length := by omega
      subst e
      have hd : decide (l.length < l.length) = false := decide_eq_false hlt
      rw [List.take_length]
      go_wp2
      go_ret
      exact ⟨rfl, rfl⟩
set_option maxHeartbeats 2000000 in
theorem rpages36_any (n : Nat) (w : World) (hn : n < 4611686018427387904) : Calls Try.prog 75 #[.int .i64 n] w fun e w' => e = .returned (.int .i64 (pagesN n)) ∧ w = w' := by
  go_enter Try.func75, Try.ntmps75
  go_wp2
  all_goals
    go_ret
    exact ⟨ret_int (by unfold pagesN; omega), rfl⟩
set_option maxHeartbeats 2000000 in
theorem rPages_any (v : Value) (l : List UInt8) (w : World) (h : IsBytes w v l) (hl : l.length < 4611686018427387904) : Calls Try.prog 53 #[v] w fun e w' => e = .returned (.int .i64 (pagesN l.length)) ∧ w = w' := by
  obtain ⟨a, c, rfl, -, hm⟩ := h
  go_enter Try.func53, Try.ntmps53
  go_wp2_with fail
  refine (rpages36_any l.length _ hl).mono ?_
  rintro e w1 ⟨rfl, rfl⟩
  go_wp2
  go_ret
  exact ⟨rfl, rfl⟩
set_option maxHeartbeats 2000000 in
set_option maxRecDepth 100000 in
theorem rfour_any (n : Nat) (w : World) (hn : n < two32) : Calls Try.prog 87 #[.int .u32 n] w (FourRet n w) := by
  unfold two32 at hn
  have H := Lib.hid (show (bytesV (fourN n)).toArray = #[.int .u8 ((n : Int) % 256), .int .u8 ((n : Int) / 256 % 256), .int .u8 ((n : Int) / 65536 % 256), .int .u8 ((n : Int) / 16777216)] by
    unfold fourN bytesV
    simp only [List.map_cons, List.map_nil, byte_val, Int.natCast_ediv]
    rw [show ((n : Int) / ((16777216 : Nat) : Int)) % 256 = (n : Int) / 16777216 by omega]
    rfl)
  go_enter Try.func87, Try.ntmps87
  go_wp2
  rw [← H.out]
  go_ret
  exact ⟨rfl, rfl⟩
theorem wrap_i64_id {n : Int} (h : -9223372036854775808 ≤ n) (h2 : n < 9223372036854775808) : IntKind.i64.wrap n = n := by rw [IntKind.wrap_i64]; omega
set_option maxHeartbeats 2000000 in
set_option maxRecDepth 100000 in
theorem rnumber_any (v : Value) (l : List UInt8) (w : World) (h : IsBytes w v l) (hl : 4 ≤ l.length) : Calls Try.prog 91 #[v] w fun e w' => e = .returned (.int .i64 (number l)) ∧ ∃ k, w' = w.drewN k := by
  have h0 := h
  obtain ⟨a, c, rfl, -, hm⟩ := h
  obtain ⟨b, off, rfl, hc0⟩ := h0.at_ (List.getElem?_eq_getElem (i := 0) (by omega))
  obtain ⟨b', off', hx, hc1⟩ := h0.at_ (List.getElem?_eq_getElem (i := 1) (by omega)); cases hx
  obtain ⟨b', off', hx, hc2⟩ := h0.at_ (List.getElem?_eq_getElem (i := 2) (by omega)); cases hx
  obtain ⟨b', off', hx, hc3⟩ := h0.at_ (List.getElem?_eq_getElem (i := 3) (by omega)); cases hx
  have HN := Lib.hid (show number l = l[0].toNat + 256 * l[1].toNat + 65536 * l[2].toNat + 16777216 * l[3].toNat by
    unfold number; simp only [List.getD_eq_getElem?_getD, List.getElem?_eq_getElem (show 0 < l.length by omega), List.getElem?_eq_getElem (show 1 < l.length by omega), List.getElem?_eq_getElem (show 2 < l.length by omega), List.getElem?_eq_getElem (show 3 < l.length by omega), Option.getD_some])
  have k0 := l[0].toNat_lt; have k1 := l[1].toNat_lt; have k2 := l[2].toNat_lt; have k3 := l[3].toNat_lt
  obtain ⟨x0, e0⟩ : ∃ x, l[0].toNat = x := ⟨_, rfl⟩
  obtain ⟨x1, e1⟩ : ∃ x, l[1].toNat = x := ⟨_, rfl⟩
  obtain ⟨x2, e2⟩ : ∃ x, l[2].toNat = x := ⟨_, rfl⟩
  obtain ⟨x3, e3⟩ : ∃ x, l[3].toNat = x := ⟨_, rfl⟩
  rw [e0] at hc0 k0 HN
  rw [e1] at hc1 k1 HN
  rw [e2] at hc2 k2 HN
  rw [e3] at hc3 k3 HN
  clear e0 e1 e2 e3
  have q0 := wrap_i64_id (n := (x0 : Int)) (by omega) (by omega)
  have q1 := wrap_i64_id (n := (x1 : Int)) (by omega) (by omega)
  have q2 := wrap_i64_id (n := (x2 : Int)) (by omega) (by omega)
  have q3 := wrap_i64_id (n := (x3 : Int)) (by omega) (by omega)
  have v1 := wrap_i64_id (n := (x1 : Int) * 256) (by omega) (by omega)
  have v2 := wrap_i64_id (n := (x2 : Int) * 65536) (by omega) (by omega)
  have v3 := wrap_i64_id (n := (x3 : Int) * 16777216) (by omega) (by omega)
  have s1 := wrap_i64_id (n := (x0 : Int) + (x1 : Int) * 256) (by omega) (by omega)
  have s2 := wrap_i64_id (n := (x0 : Int) + (x1 : Int) * 256 + (x2 : Int) * 65536) (by omega) (by omega)
  have s3 := wrap_i64_id (n := (x0 : Int) + (x1 : Int) * 256 + (x2 : Int) * 65536 + (x3 : Int) * 16777216) (by omega) (by omega)
  have HZ := Lib.hid (show (x0 : Int) + (x1 : Int) * 256 + (x2 : Int) * 65536 + (x3 : Int) * 16777216 = (number l : Int) by rw [HN.out]; omega)
  have j0 : 0 < l.length := by omega
  have j1 : 1 < l.length := by omega
  have j2 : 2 < l.length := by omega
  have j3 : 3 < l.length := by omega
  clear HN
  have hl0 : (0 : Int) < (l.length : Int) := by omega
  have hl1 : (1 : Int) < (l.length : Int) := by omega
  have hl2 : (2 : Int) < (l.length : Int) := by omega
  have hl3 : (3 : Int) < (l.length : Int) := by omega
  rw [Nat.add_zero] at hc0
  go_enter Try.func91, Try.ntmps91
  go_wp2
  go_quiet (fail)
  go_wp2
  go_ret
  exact ⟨by rw [HZ.out]; rfl, _, rfl⟩
end Go.Proofs.Ytcembocnkndlhaa
/- The reference's walk: Read. -/
namespace Go.Proofs.Ytcembocnkndlhaa
open Go.RowKit
set_option maxHeartbeats 4000000 in
set_option maxRecDepth 100000 in
theorem rRead_any (v : Value) (d : Dk) (k : Int) (w : World) (h : IsDisk w v d) : Calls Try.prog 25 #[v, .int .i64 k] w (BytesErr (readD d k) w) := by
  have h0 := h
  obtain ⟨pa, pc, wa, wc, rfl, hp, hw, m1, m2, m3⟩ := h.shape
  obtain ⟨C, hC⟩ : ∃ C, C = Obj.cells #[.slice pa d.pages.length pc, .slice wa d.writes.length wc, .bool d.down] 25 := ⟨_, rfl⟩
  obtain ⟨wb, hwb⟩ : ∃ x : World, x = w.alloc C := ⟨_, rfl⟩
  have b0 : Below w.heap.size w wb := by subst hwb; exact below_new _ _
  have g0 : wb.heap[w.heap.size]? = some (.cells #[.slice pa d.pages.length pc, .slice wa d.writes.length wc, .bool d.down] 25 (0, 0)) := by
    subst hC hwb; exact heap_alloc_new _ _
  have hsb : wb.heap.size = w.heap.size + 1 := by subst hwb; simp
  by_cases hf : failure d k = 0
  · have H := Lib.hid (show readD d k = (look d k, 0) by unfold readD; rw [if_neg (by simp [hf])])
    have hform := (failure_zero hf).1
    obtain ⟨-, -, hk0, hk1⟩ := failure_zero hf
    have HF := Lib.hid hf
    have HM := Lib.hid (((formed_iff d).1 hform).2.2.1)
    have HP := Lib.hid (((formed_iff d).1 hform).2.1)
    clear hf hform
    go_enter Try.func25, Try.ntmps25
    go_wp2_with fail
    rw [← hC, ← hwb]
    clear hC hwb
    refine (rfailure_eq (h0.keep b0) _ HF.out).mono ?_
    rintro e w3 ⟨rfl, b3⟩
    have b03 := below_trans b0 b3
    have g03 := block_keep g0 b3
    obtain ⟨y0, y1, y2, -, -, -⟩ := Box3.of g03
    have hh0 := h0.keep b03
    have hp3 := hp.keep b03
    have hw3 := hw.keep b03
    clear h0 hp hw
    go_wp2
    go_loopw [7] (fun i wr => wr = w3 ∧ ∃ (j : Nat), j ≤ d.writes.length ∧ i = .int .i64 ((j : Int) - 1) ∧ Hid (∀ m (hm : m < d.writes.length), j ≤ m → d.writes[m].at_ ≠ k)) (fun i _ => (intOf i + 1).toNat)
    case atStart => exact ⟨rfl, d.writes.length, Nat.le_refl _, by go_num, Lib.hid fun m hm h => by omega⟩
    case round =>
      obtain ⟨rfl, j, hj, rfl, hn⟩ := hrel
      cases j with
      | zero =>
        have hlk := look_miss (d := d) (k := k) fun m hm => hn.out m hm (Nat.zero_le _)
        obtain ⟨kn, rfl⟩ : ∃ n : Nat, k = (n : Int) := ⟨k.toNat, by omega⟩
        have HLK := Lib.hid hlk
        clear hlk
        rw [show ((0 : Nat) : Int) - 1 = -1 by omega]
        by_cases hlt : kn < d.pages.length
        · obtain ⟨b, off, da, dc, rfl, c0, hB⟩ := hp3.at_ (List.getElem?_eq_getElem hlt)
          have hdl := HP.out d.pages[kn] (List.getElem_mem hlt)
          have hdd : decide ((kn : Int) < (d.pages.length : Int)) = true := decide_eq_true (by omega)
          have hE := Lib.hid (show look d kn = full d.pages[kn] by rw [HLK.out, if_pos (by omega)]; simp [List.getD_eq_getElem?_getD, List.getElem?_eq_getElem hlt])
          generalize d.pages[kn] = x at *
          have HDL := Lib.hid hdl
          clear hdl
          go_wp2_with fail
          refine rFull_ts hB (by have := HDL.out; omega) ?_
          intro g c w5 hF bF
          go_wp2
          refine bodyPost_ret (v := .tuple #[.slice (some ⟨g, 0, none⟩) (rfull x).length c, .int .i64 0]) (by simp [results, Try.results25, go_sem]) rfl ?_
          refine ⟨_, by rw [H.out], ?_, below_trans b03 bF⟩
          rw [H.out, hE.out, full_rfull (by have := HDL.out; omega)]
          exact OwnB.is hF (by have := HDL.out; simp [rfull, zeros]; omega)
        · have hdd : decide ((kn : Int) < (d.pages.length : Int)) = false := decide_eq_false (by omega)
          have hE := Lib.hid (show look d kn = full [] by rw [HLK.out, if_neg (by omega)])
          go_wp2_with fail
          refine rFull_ts (IsBytes.nil _) (by simp) ?_
          intro g c w5 hF bF
          go_wp2
          refine bodyPost_ret (v := .tuple #[.slice (some ⟨g, 0, none⟩) (rfull []).length c, .int .i64 0]) (by simp [results, Try.results25, go_sem]) rfl ?_
          refine ⟨_, by rw [H.out], ?_, below_trans b03 bF⟩
          rw [H.out, hE.out, full_rfull (by simp)]
          exact OwnB.is hF (by simp [rfull, zeros])
      | succ m =>
        rw [show ((m + 1 : Nat) : Int) - 1 = (m : Int) by omega]
        obtain ⟨b, off, da, dc, rfl, c0, c1, hB⟩ := hw3.at_ (List.getElem?_eq_getElem (show m < d.writes.length by omega))
        have hM := HM.out d.writes[m] (List.getElem_mem (show m < d.writes.length by omega))
        by_cases ha : d.writes[m].at_ = k
        · have hE := Lib.hid (look_hit (d := d) (k := k) (show m < d.writes.length by omega) ha fun j hj h => hn.out j hj h)
          have hdd : (d.writes[m].at_ == k) = true := by simp [ha]
          have HA := Lib.hid ha
          generalize d.writes[m] = x at *
          have HX := Lib.hid hM
          clear hM ha
          go_wp2_with fail
          refine rFull_ts hB (by have := HX.out; omega) ?_
          intro g c w5 hF bF
          go_wp2
          refine bodyPost_ret (v := .tuple #[.slice (some ⟨g, 0, none⟩) (rfull x.data).length c, .int .i64 0]) (by simp [results, Try.results25, go_sem]) rfl ?_
          refine ⟨_, by rw [H.out], ?_, below_trans b03 bF⟩
          rw [H.out, hE.out, full_rfull (by have := HX.out; omega)]
          exact OwnB.is hF (by have := HX.out; simp [rfull, zeros]; omega)
        · have hdd : (d.writes[m].at_ == k) = false := by simp [ha]
          have HA := Lib.hid ha
          have HN := Lib.hid (show ∀ j (hj : j < d.writes.length), m ≤ j → d.writes[j].at_ ≠ k from fun j hj h => by
            rcases Nat.lt_or_ge m j with h' | h'
            · exact hn.out j hj h'
            · obtain rfl : m = j := by omega
              exact ha)
          clear ha hM
          generalize d.writes[m] = x at *
          clear hn
          go_wp2
          go_roundw
          case rel => exact ⟨trivial, m, by omega, by go_num, HN⟩
          case measure => simp [intOf]
  · have H := Lib.hid (show readD d k = ([], failure d k) by unfold readD; rw [if_pos hf])
    have hne := ne_beq hf
    have hbq : (failure d k != 0) = true := by simpa using hf
    generalize hR : failure d k = R at *
    have HR := Lib.hid hR
    clear hR
    go_enter Try.func25, Try.ntmps25
    go_wp2_with fail
    rw [← hC, ← hwb]
    refine (rfailure_eq (h0.keep b0) _ HR.out).mono ?_
    rintro e w3 ⟨rfl, b3⟩
    go_wp2
    refine bodyPost_ret (v := .tuple #[.slice none 0 0, .int .i64 R]) (by simp [results, Try.results25, go_sem]) rfl ?_
    exact ⟨_, by rw [H.out], by rw [H.out]; exact IsBytes.nil _, below_trans b0 b3⟩
end Go.Proofs.Ytcembocnkndlhaa
/- The reference's walk: next. -/
namespace Go.Proofs.Ytcembocnkndlhaa
open Go.RowKit Go.Shelf
theorem gt_zero (P : Pages) (k N : Nat) : (gath P k 0).take N = ((P k).drop 8).take (min N 55) := by rw [gath_zero, List.take_take]
theorem gt_succ {P : Pages} (hP : ∀ k, (P k).length = 64) (k N j : Nat) : (gath P k (j + 1)).take N = (gath P k j).take N ++ (P (k + 1 + j)).take (min (N - min N (55 + 64 * j)) 64) := by
  rw [gath_succ, List.take_append, gath_len hP, show List.take (N - (55 + 64 * j)) (P (k + 1 + j)) = List.take (min (N - min N (55 + 64 * j)) 64) (P (k + 1 + j)) from ?_]
  rcases Nat.lt_or_ge (N - (55 + 64 * j)) 64 with h | h
  · congr 1; omega
  · rw [List.take_of_length_le (by rw [hP]; exact h), List.take_of_length_le (by rw [hP]; omega)]
/-- What next returns at a page that can be read. -/
def NextRet (P : Pages) (k : Nat) (w : World) (e : Ending) (w' : World) : Prop := ∃ u zz ok, e = .returned (.tuple #[u, .int .i64 zz, .bool ok]) ∧ Below w.heap.size w w' ∧ (entryAt P k = none → ok = false) ∧ ∀ r z, entryAt P k = some (r, z) → ok = true ∧ zz = (z : Nat) ∧ OwnB w' w.heap.size u r
theorem next_no {P : Pages} {k : Nat} {w w' : World} {u : Value} {zz : Int} (h : entryAt P k = none) (hb : Below w.heap.size w w') : NextRet P k w (.returned (.tuple #[u, .int .i64 zz, .bool false])) w' :=
  ⟨u, zz, false, rfl, hb, fun _ => rfl, fun r z h' => by rw [h] at h'; cases h'⟩
theorem number_take4 (l : List UInt8) : number (l.take 4) = number l := by
  unfold number
  simp only [List.getD_eq_getElem?_getD]
  rw [List.getElem?_take_of_lt (by omega), List.getElem?_take_of_lt (by omega), List.getElem?_take_of_lt (by omega), List.getElem?_take_of_lt (by omega)]
set_option maxHeartbeats 8000000 in
set_option maxRecDepth 100000 in
theorem next_any (v : Value) (d : Dk) (k : Nat) (w : World) (h : IsDisk w v d) (hf : failure d k = 0) : Calls Try.prog 88 #[v, .int .i64 k] w (NextRet (pagesOf d) k w) := by
  obtain ⟨i0, hi, hz0, hz1, hz2⟩ := info_parts info5
  have h0 := h
  obtain ⟨pa, pc, wa, wk, rfl, -, -, m1, m2, m3⟩ := h.shape
  have b0 := below_new w (.cells #[.slice pa d.pages.length pc, .slice wa d.writes.length wk, .bool d.down] 25)
  have g0 := heap_alloc_new w (.cells #[.slice pa d.pages.length pc, .slice wa d.writes.length wk, .bool d.down] 25)
  obtain ⟨wb, hwb⟩ : ∃ x : World, x = w.alloc (.cells #[.slice pa d.pages.length pc, .slice wa d.writes.length wk, .bool d.down] 25) := ⟨_, rfl⟩
  rw [← hwb] at b0 g0
  obtain ⟨hfm, hdn, hk0, hk1⟩ := failure_zero hf
  have hk4 : k < 400 := by omega
  have HFM := Lib.hid hfm
  have HDN := Lib.hid hdn
  have HW := Lib.hid (look_wide d)
  obtain ⟨P, HP⟩ : ∃ P, Hid (pagesOf d = P) := ⟨_, Lib.hid rfl⟩
  rw [HP.out] at HW ⊢
  obtain ⟨pg, HPG⟩ : ∃ pg, Hid (P k = pg) := ⟨_, Lib.hid rfl⟩
  have HRD : Hid (readD d (k : Int) = (pg, 0)) := Lib.hid (by rw [readD_ok HFM.out HDN.out (by omega) (by omega)]; show (pagesOf d k, (0 : Int)) = _; rw [HP.out, HPG.out])
  have HP64 := Lib.hid (show pg.length = 64 by rw [← HPG.out]; exact HW.out k)
  have hpa : pg.length ≤ 64 := Nat.le_of_eq HP64.out
  have hpb : 64 ≤ pg.length := Nat.le_of_eq HP64.out.symm
  have hp4 : 4 ≤ pg.length := by omega
  clear hf hfm hdn
  obtain ⟨N, HN⟩ : ∃ N, Hid (number pg = N) := ⟨_, Lib.hid rfl⟩
  have hNlt : N < 4294967296 := by rw [← HN.out]; exact number_lt _
  obtain ⟨E, HEp⟩ : ∃ E, Hid (pagesN N = E) := ⟨_, Lib.hid rfl⟩
  have hE1 : 1 ≤ E := by rw [← HEp.out]; unfold pagesN; omega
  have hE2 : E ≤ 67108865 := by rw [← HEp.out]; unfold pagesN; omega
  have hEN : N ≤ 55 + 64 * (E - 1) := by rw [← HEp.out]; unfold pagesN; omega
  have hEL : 55 + 64 * (E - 1) < N + 64 := by rw [← HEp.out]; unfold pagesN; omega
  obtain ⟨c63, HC63⟩ : ∃ c, Hid (pg.getD 63 0 = c) := ⟨_, Lib.hid rfl⟩
  obtain ⟨y0, y1, y2, -, -, -⟩ := Box3.of g0
  go_enter Try.func88, Try.ntmps88
  go_wp2_with fail
  rw [← hwb]
  clear hwb
  refine (rRead_any _ d k _ (h0.keep b0)).mono ?_
  intro e w1 hres
  obtain ⟨a, c, rfl, hp, b1⟩ := hres.to HRD
  clear hres y0 y1 y2
  obtain ⟨b, off, rfl⟩ : ∃ b off, a = some ⟨b, off, none⟩ := by
    obtain ⟨b, off, e, -⟩ := hp.at_ (List.getElem?_eq_getElem (i := 0) (by omega)); exact ⟨b, off, e⟩
  have hc64 : 64 ≤ c := by obtain ⟨a', c', e, -, h1, h2, h3⟩ := hp; injection e with e1 e2 e3; omega
  have hcm : c ≤ 9223372036854775807 := by obtain ⟨a', c', e, -, h1, h2, h3⟩ := hp; injection e with e1 e2 e3; omega
  have hp4' := bytes_front hp hp4
  have hl4 : (pg.take 4).length = 4 := by rw [List.length_take]; omega
  go_wp2_with fail
  (with_reducible refine (rnumber_any _ (pg.take 4) _ hp4' (Nat.le_of_eq hl4.symm)).mono ?_)
  rintro e w2 ⟨rfl, nq, hnq⟩
  have b2 : Below w1.heap.size w1 w2 := by subst hnq; exact below_drewN (Below.refl _ _) nq
  clear hnq
  rw [number_take4 pg, HN.out]
  clear hp4' hl4
  replace hp := hp.keep b2
  replace b2 := below_trans b1 b2
  clear b1
  have hNp : N < 4611686018427387904 := by omega
  go_wp2_with fail
  (with_reducible refine (rpages36_any N _ hNp).mono ?_)
  rintro e w3 ⟨rfl, rfl⟩
  rw [HEp.out]
  have hkE : (k : Int) + (E : Int) = ((k + E : Nat) : Int) := by omega
  obtain ⟨z, hz⟩ : ∃ z, k + E = z := ⟨_, rfl⟩
  rw [hz] at hkE
  have HKE := Lib.hid hkE
  have hwkE : IntKind.i64.wrap ((k : Int) + (E : Int)) = (k : Int) + (E : Int) := by rw [IntKind.wrap_i64]; omega
  obtain ⟨b', off', hx, hc63⟩ := hp.at_ (List.getElem?_eq_getElem (i := 63) (by omega)); cases hx
  have hg63 : pg[63] = c63 := by
    have := HC63.out
    rw [List.getD_eq_getElem?_getD, List.getElem?_eq_getElem (by omega)] at this
    exact this
  rw [hg63] at hc63
  clear hg63
  have j63 : 63 < pg.length := by omega
  have hzE : z = k + E := hz.symm
  clear hz hkE
  by_cases hm : c63 = 1
  case neg =>
    have hq : ((c63.toNat : Int) != 1) = true := by
      rw [bne_iff_ne]; intro h; have h2 : c63.toNat = 1 := by omega
      exact hm (UInt8.toNat_inj.1 h2)
    have HNO := Lib.hid (show entryAt P k = none from entry_no1 (by rw [HPG.out, HC63.out]; exact hm))
    clear hm
    go_wp2
    go_ret3
    exact next_no HNO.out (below_trans b0 b2)
  have hq : ((c63.toNat : Int) != 1) = false := by rw [hm]; rfl
  have HM1 := Lib.hid (show (P k).getD 63 0 = 1 by rw [HPG.out, HC63.out, hm])
  clear hm
  by_cases hz4 : z ≤ 400
  case neg =>
    have hq2 : decide ((400 : Int) < (k : Int) + (E : Int)) = true := decide_eq_true (by omega)
    have HNO := Lib.hid (show entryAt P k = none from entry_no2 (by rw [HPG.out, HN.out, HEp.out]; omega))
    go_wp2
    go_ret3
    exact next_no HNO.out (below_trans b0 b2)
  have hq2 : decide ((400 : Int) < (k : Int) + (E : Int)) = false := decide_eq_false (by omega)
  go_upto_region 8 with fail
  have bE := below_new w2 (.cells #[] 5)
  have h00 : (w2.alloc (.cells #[] 5)).ownsRow w2.heap.size 5 1 (.slice (some ⟨w2.heap.size, 0, none⟩) 0 0) 0 [] := World.ownsRow_lit w2 #[] 0 (Nat.le_refl _) (by decide) rfl
  have hp2 := hp.keep bE
  have hof : ∀ q, Value.ownBlock (.slice (some ⟨w2.heap.size, 0, none⟩) 0 0) = some q → w2.heap.size ≤ q := by
    intro q hq
    obtain rfl : w2.heap.size = q := by simpa [Value.ownBlock] using hq
    exact Nat.le_refl _
  go_cut [11] from 40 to 46 (fun vt wx => OwnB wx w2.heap.size vt ((gath P k 0).take N) ∧ Below w2.heap.size w2 wx)
  case first =>
    have HG0 := Lib.hid (gt_zero P k N)
    rw [HPG.out] at HG0
    by_cases h55 : N ≤ 55
    · have t2 : ((55 : Int) < (N : Int)) = False := eq_false (by omega)
      have hx := bytes_part hp2 (i := 8) (m := N) (by omega)
      have hone := bytes_one ((pg.drop 8).take N)
      have hlx : ((pg.drop 8).take N).length = N := by rw [List.length_take, List.length_drop]; omega
      obtain ⟨t, ht⟩ : ∃ t, t = (pg.drop 8).take N := ⟨_, rfl⟩
      rw [← ht] at hx hone hlx
      have HGT := Lib.hid (show (gath P k 0).take N = t by rw [HG0.out, ht]; congr 1; omega)
      clear ht
      have hm1 : 0 + t.length ≤ maxLen := by unfold maxLen; omega
      have hm2 : (0 + t.length) * 1 ≤ 140737488355328 := by omega
      replace hx : IsBytes (w2.alloc (.cells #[] 5)) (.slice (some ⟨b, off + 8, none⟩) (8 + N - 8) (c - 8)) t := by rw [show 8 + N - 8 = N by omega]; exact hx
      have HLX := Lib.hid hlx
      clear hlx
      have hsz : w2.heap.size ≤ (w2.alloc (.cells #[] 5)).heap.size := by simp
      go_wp2_with (at_builtin; refine wpList_append_rows rfl encB _ _ 26 rfl w2.heap.size 5 i0 (.int .u8 0) 1 1 Try.underlying26 hi hz0 hz1 hz2 rfl (by decide) _ _ _ rfl h00 _ t rfl hx (fun _ _ => rfl) hone hm1 hm2 hsz ?_; intro v7 w7 own7 grow7 at7)
      have hb7 : Below w2.heap.size w2 w7 := bE.grown grow7 (by simp) hof
      have hO7 : OwnB w7 w2.heap.size v7 t := by
        refine ⟨?_, ?_⟩
        · have := own7; rw [flat_bytes] at this; simpa using this
        · rintro rfl
          rcases at7 with h | h
          · cases h
          · cases h
      go_meet
      case rel => exact ⟨by rw [HGT.out]; exact hO7, hb7⟩
    · have t2 : ((55 : Int) < (N : Int)) = True := eq_true (by omega)
      have hx := bytes_part hp2 (i := 8) (m := 55) (by omega)
      have hone := bytes_one ((pg.drop 8).take 55)
      have hlx : ((pg.drop 8).take 55).length = 55 := by rw [List.length_take, List.length_drop]; omega
      obtain ⟨t, ht⟩ : ∃ t, t = (pg.drop 8).take 55 := ⟨_, rfl⟩
      rw [← ht] at hx hone hlx
      have HGT := Lib.hid (show (gath P k 0).take N = t by rw [HG0.out, ht]; congr 1; omega)
      clear ht
      have hm1 : 0 + t.length ≤ maxLen := by unfold maxLen; omega
      have hm2 : (0 + t.length) * 1 ≤ 140737488355328 := by omega
      replace hx : IsBytes (w2.alloc (.cells #[] 5)) (.slice (some ⟨b, off + 8, none⟩) (8 + 55 - 8) (c - 8)) t := hx
      have HLX := Lib.hid hlx
      clear hlx
      have hsz : w2.heap.size ≤ (w2.alloc (.cells #[] 5)).heap.size := by simp
      go_wp2_with (at_builtin; refine wpList_append_rows rfl encB _ _ 26 rfl w2.heap.size 5 i0 (.int .u8 0) 1 1 Try.underlying26 hi hz0 hz1 hz2 rfl (by decide) _ _ _ rfl h00 _ t rfl hx (fun _ _ => rfl) hone hm1 hm2 hsz ?_; intro v7 w7 own7 grow7 at7)
      have hb7 : Below w2.heap.size w2 w7 := bE.grown grow7 (by simp) hof
      have hO7 : OwnB w7 w2.heap.size v7 t := by
        refine ⟨?_, ?_⟩
        · have := own7; rw [flat_bytes] at this; simpa using this
        · rintro rfl
          rcases at7 with h | h
          · cases h
          · cases h
      go_meet
      case rel => exact ⟨by rw [HGT.out]; exact hO7, hb7⟩
  case rest =>
    obtain ⟨hO, hB⟩ := hcut
    obtain ⟨w3, rfl⟩ : ∃ wx : World, wx = wc := ⟨_, rfl⟩
    have b02 := below_trans b0 b2
    have g2 := block_keep g0 b2
    have h2 := h0.keep b02
    clear hp2 h00 bE hof hc63
    go_wp2
    go_loopw [11, 12, 13, 14] (fun rv iv _ _ wr => ∃ j : Nat, j + 1 ≤ E ∧ iv = .int .i64 ((k + 1 + j : Nat)) ∧ OwnB wr w2.heap.size rv ((gath P k j).take N) ∧ Below w2.heap.size w2 wr) (fun _ iv _ _ _ => z - (intOf iv).toNat)
    case atStart => exact ⟨0, hE1, by go_num, hO, hB⟩
    case round =>
      clear hO hB
      obtain ⟨j, hj, rfl, hO, hB⟩ := hrel
      obtain ⟨wo, rfl⟩ : ∃ wo : World, wo = wr := ⟨_, rfl⟩
      have hML : ((gath P k j).take N).length = min N (55 + 64 * j) := by rw [List.length_take, gath_len HW.out]
      have HST := Lib.hid (gt_succ HW.out k N j)
      by_cases hlt : j + 1 < E
      · have hd : decide (((k + 1 + j : Nat) : Int) < (k : Int) + (E : Int)) = true := decide_eq_true (by omega)
        obtain ⟨M, hM⟩ : ∃ M, (gath P k j).take N = M := ⟨_, rfl⟩
        obtain ⟨q, hq⟩ : ∃ q, P (k + 1 + j) = q := ⟨_, rfl⟩
        have hML2 : M.length = 55 + 64 * j := by rw [← hM, hML]; omega
        have hMN : M.length ≤ N := by omega
        have hMi : (0 : Int) ≤ (N : Int) - (M.length : Int) := by omega
        have hq64 : q.length = 64 := by rw [← hq]; exact HW.out _
        rw [hM] at hO
        obtain ⟨rg, rcap, rcur, rfl, -, -, -, -, -, -⟩ := id hO.form
        rw [hM, hq, show min N (55 + 64 * j) = M.length by omega] at HST
        obtain ⟨kj, hkj⟩ : ∃ kj : Nat, k + 1 + j = kj := ⟨_, rfl⟩
        have hkj4 : kj < 400 := by omega
        have HRQ : Hid (readD d (kj : Int) = (q, 0)) := Lib.hid (by rw [readD_ok HFM.out HDN.out (by omega) (by omega)]; show (pagesOf d kj, (0 : Int)) = _; rw [HP.out, ← hkj, hq])
        have hqa : q.length ≤ 64 := by omega
        have hqb : 64 ≤ q.length := by omega
        have hMs : M.length ≤ 100000 := by omega
        have hM0 : 0 < M.length := by omega
        rw [hkj] at hd ⊢
        have HKJ := Lib.hid hkj
        clear hML hM hq hML2 hq64 hkj
        obtain ⟨y0, y1, y2, -, -, -⟩ := Box3.of (block_keep g2 hB)
        go_wp2_with fail
        (with_reducible refine (rRead_any _ d kj _ (h2.keep hB)).mono ?_)
        intro e w4 hres
        obtain ⟨qa, qc, rfl, tq, b4⟩ := hres.to HRQ
        clear hres y0 y1 y2
        have hqc : 64 ≤ qc := by obtain ⟨a', c', e, -, h1, h2, h3⟩ := tq; injection e with e1 e2 e3; omega
        have hqm : qc ≤ 9223372036854775807 := by obtain ⟨a', c', e, -, h1, h2, h3⟩ := tq; injection e with e1 e2 e3; omega
        replace hO := hO.keep b4
        have hB4 : Below w2.heap.size w2 w4 := below_trans hB b4
        go_upto_region 13 with fail
        have hsz4 : w2.heap.size ≤ w4.heap.size := hB4.size
        by_cases h64 : N - M.length ≤ 64
        · have t2 : ((64 : Int) < (N : Int) - (M.length : Int)) = False := eq_false (by omega)
          have t5 : ((N : Int) - (M.length : Int)).toNat = N - M.length := by omega
          have hx := bytes_front tq (m := N - M.length) (by omega)
          have hone := bytes_one (q.take (N - M.length))
          have hlx : (q.take (N - M.length)).length = N - M.length := by rw [List.length_take]; omega
          obtain ⟨t, ht⟩ : ∃ t, t = q.take (N - M.length) := ⟨_, rfl⟩
          rw [← ht] at hx hone hlx
          have HGT := Lib.hid (show (gath P k (j + 1)).take N = M ++ t by rw [HST.out, ht, show min (N - M.length) 64 = N - M.length by omega])
          clear ht
          have hm1 : M.length + t.length ≤ maxLen := by unfold maxLen; omega
          have hm2 : (M.length + t.length) * 1 ≤ 140737488355328 := by omega
          have HLX := Lib.hid hlx
          clear hlx
          go_wp2_with (at_builtin; refine wpList_append_rows rfl encB _ _ 26 rfl w2.heap.size 5 i0 (.int .u8 0) 1 1 Try.underlying26 hi hz0 hz1 hz2 rfl (by decide) _ _ _ rfl hO.1 _ t rfl hx (fun _ _ => rfl) hone hm1 hm2 hsz4 ?_; intro v7 w7 own7 grow7 at7)
          rw [flat_bytes t] at own7
          obtain ⟨g7, c7, rfl, hO7⟩ := OwnB.grew (n' := (M ++ t).length) own7 (by rw [List.length_append]) rfl (by rw [List.length_append]; omega)
          have hb7 : Below w2.heap.size w2 w7 := hB4.grown grow7 hsz4 (own_from hO.1)
          go_roundw
          case rel => exact ⟨j + 1, by omega, by rw [← HKJ.out]; go_num, by rw [HGT.out]; exact hO7, hb7⟩
          case measure => have := HKJ.out; simp [intOf]; omega
        · have t2 : ((64 : Int) < (N : Int) - (M.length : Int)) = True := eq_true (by omega)
          have hx := bytes_front tq (m := 64) (by omega)
          have hone := bytes_one (q.take (64))
          have hlx : (q.take (64)).length = 64 := by rw [List.length_take]; omega
          obtain ⟨t, ht⟩ : ∃ t, t = q.take (64) := ⟨_, rfl⟩
          rw [← ht] at hx hone hlx
          have HGT := Lib.hid (show (gath P k (j + 1)).take N = M ++ t by rw [HST.out, ht, show min (N - M.length) 64 = 64 by omega])
          clear ht
          have hm1 : M.length + t.length ≤ maxLen := by unfold maxLen; omega
          have hm2 : (M.length + t.length) * 1 ≤ 140737488355328 := by omega
          have HLX := Lib.hid hlx
          clear hlx
          go_wp2_with (at_builtin; refine wpList_append_rows rfl encB _ _ 26 rfl w2.heap.size 5 i0 (.int .u8 0) 1 1 Try.underlying26 hi hz0 hz1 hz2 rfl (by decide) _ _ _ rfl hO.1 _ t rfl hx (fun _ _ => rfl) hone hm1 hm2 hsz4 ?_; intro v7 w7 own7 grow7 at7)
          rw [flat_bytes t] at own7
          obtain ⟨g7, c7, rfl, hO7⟩ := OwnB.grew (n' := (M ++ t).length) own7 (by rw [List.length_append]) rfl (by rw [List.length_append]; omega)
          have hb7 : Below w2.heap.size w2 w7 := hB4.grown grow7 hsz4 (own_from hO.1)
          go_roundw
          case rel => exact ⟨j + 1, by omega, by rw [← HKJ.out]; go_num, by rw [HGT.out]; exact hO7, hb7⟩
          case measure => have := HKJ.out; simp [intOf]; omega
      · have hd : decide (((k + 1 + j : Nat) : Int) < (k : Int) + (E : Int)) = false := decide_eq_false (by omega)
        obtain rfl : j = E - 1 := by omega
        have hp3 := hp.keep hB
        have hp48 := bytes_part hp3 (i := 4) (m := 4) (by omega)
        have hl48 : ((pg.drop 4).take 4).length = 4 := by rw [List.length_take, List.length_drop]; omega
        have HSUM := Lib.hid (show number ((pg.drop 4).take 4) = number (pg.drop 4) from number_take4 _)
        obtain ⟨M, hM⟩ : ∃ M, (gath P k (E - 1)).take N = M := ⟨_, rfl⟩
        rw [hM] at hO hML
        have HM := Lib.hid hM
        have hMs : M.length ≤ 100000 := by omega
        obtain ⟨rg, rcap, rcur, rfl, -, -, -, -, -, -⟩ := id hO.form
        have hMB := hO.is (by omega)
        obtain ⟨sm, hsm⟩ : ∃ sm, sumN M = sm := ⟨_, rfl⟩
        obtain ⟨sn, hsn⟩ : ∃ sn, number (pg.drop 4) = sn := ⟨_, rfl⟩
        have hsm32 : sm < 4294967296 := by rw [← hsm]; exact sumN_lt _
        have hwsm : IntKind.i64.wrap (sm : Int) = (sm : Int) := wrap_i64_id (by omega) (by omega)
        have c52 : ∀ n, Calls Try.prog 52 #[.slice (some ⟨rg, 0, none⟩) M.length rcap] (wo.drewN n) fun e w'' => e = .returned (.int .u32 sm) ∧ ∃ m, w'' = wo.drewN m := fun n => by
          have := rSum_any _ M (wo.drewN n) (hMB.keep (below_drewN (Below.refl _ _) n))
          rw [hsm] at this
          exact quiet_left this
        have c91 : ∀ n, Calls Try.prog 91 #[.slice (some ⟨b, off + 4, none⟩) 4 (c - 4)] (wo.drewN n) fun e w'' => e = .returned (.int .i64 sn) ∧ ∃ m, w'' = wo.drewN m := fun n =>
          (rnumber_any _ ((pg.drop 4).take 4) (wo.drewN n) (hp48.keep (below_drewN (Below.refl _ _) n)) (by omega)).mono fun e w'' ⟨he, m, hm⟩ => ⟨by rw [he, HSUM.out, hsn], n + m, by rw [hm, World.drewN_drewN]⟩
        have HSM := Lib.hid hsm
        have HSN := Lib.hid hsn
        clear hML hl48 hM hsm hsn
        go_wp2
        go_quiet ((first | (go_at_call 52; exact c52 _) | (go_at_call 91; exact c91 _)))
        go_wp2
        go_ret3
        have hbF : Below w.heap.size w (wo.drewN nq) := below_drewN (below_trans b02 hB) nq
        have hOF : OwnB (wo.drewN nq) w.heap.size (.slice (some ⟨rg, 0, none⟩) M.length rcap) M := (hO.keep (below_drewN (Below.refl _ _) nq)).mono b02.size
        have e1 : number (P k) = N := by rw [HPG.out]; exact HN.out
        have e2 : pagesN (number (P k)) = E := by rw [e1]; exact HEp.out
        have e3 : (gath P k (pagesN (number (P k)) - 1)).take (number (P k)) = M := by rw [e2, e1]; exact HM.out
        by_cases he : sm = sn
        · have hy := entry_yes (P := P) (k := k) HM1.out (by rw [e2]; omega) (by rw [e3, HSM.out, HPG.out, HSN.out, he])
          rw [e3, e2] at hy
          refine ⟨_, _, _, rfl, hbF, fun h => ?_, fun r zz h => ?_⟩
          · rw [hy] at h; cases h
          · rw [hy] at h
            simp only [Option.some.injEq, Prod.mk.injEq] at h
            obtain ⟨rfl, rfl⟩ := h
            exact ⟨by simp [he], by omega, hOF⟩
        · have hy := entry_no3 (P := P) (k := k) HM1.out (by rw [e2]; omega) (by rw [e3, HSM.out, HPG.out, HSN.out]; exact he)
          refine ⟨_, _, _, rfl, hbF, fun h => ?_, fun r zz h => ?_⟩
          · simp; omega
          · rw [hy] at h; cases h
end Go.Proofs.Ytcembocnkndlhaa
/- The reference's walks: read, Records, End. -/
namespace Go.Proofs.Ytcembocnkndlhaa
open Go.RowKit Go.Shelf
theorem OwnR.lit (w : World) : OwnR (w.alloc (.cells #[] 26)) w.heap.size (.slice (some ⟨w.heap.size, 0, none⟩) 0 0) [] :=
  ⟨[], World.ownsRow_lit w #[] 0 (Nat.le_refl _) (by decide) rfl, rfl, by simp, by simp⟩
def ReadRet (d : Dk) (k : Int) (w : World) (e : Ending) (w' : World) : Prop := ∃ u, e = .returned (.tuple #[u, .int .i64 (endD d k)]) ∧ IsPages w' u (recordsD d k) ∧ Below w.heap.size w w'
theorem chain_bytes {P : Pages} {k z : Nat} {l : List (List UInt8)} (h : Chain P k l z) : ∀ r ∈ l, r.length ≤ 9223372036854775807 := by
  induction h with
  | nil => simp
  | @cons k e z r l hk he t ih =>
    intro x hx
    rcases List.mem_cons.1 hx with rfl | hx
    · have h1 := entryAt_lt he
      unfold entryAt at he
      split at he
      · cases he
      · split at he
        · cases he
        · rename_i a b
          simp only [Option.some.injEq, Prod.mk.injEq] at he
          obtain ⟨e1, -⟩ := he
          rw [← e1, List.length_take]
          have := number_lt (P k)
          omega
    · exact ih x hx
set_option maxHeartbeats 8000000 in
set_option maxRecDepth 100000 in
theorem rread_any (v : Value) (d : Dk) (k : Int) (w : World) (h : IsDisk w v d) : Calls Try.prog 74 #[v, .int .i64 k] w (ReadRet d k w) := by
  have h0 := h
  obtain ⟨pa, pc, wa, wk, rfl, -, -, m1, m2, m3⟩ := h.shape
  have b0 := below_new w (.cells #[.slice pa d.pages.length pc, .slice wa d.writes.length wk, .bool d.down] 25)
  have g0 := heap_alloc_new w (.cells #[.slice pa d.pages.length pc, .slice wa d.writes.length wk, .bool d.down] 25)
  obtain ⟨wb, hwb⟩ : ∃ x : World, x = w.alloc (.cells #[.slice pa d.pages.length pc, .slice wa d.writes.length wk, .bool d.down] 25) := ⟨_, rfl⟩
  have hsz : wb.heap.size = w.heap.size + 1 := by rw [hwb]; simp
  rw [← hwb] at b0 g0
  have hL := OwnR.lit wb
  have bL := below_new wb (.cells #[] 26)
  obtain ⟨wl, hwl⟩ : ∃ x : World, x = wb.alloc (.cells #[] 26) := ⟨_, rfl⟩
  rw [← hwl] at hL bL
  have HWB := Lib.hid hwb
  have HWL := Lib.hid hwl
  have HSZ := Lib.hid hsz
  replace hL : OwnR wl wb.heap.size (.slice (some ⟨w.heap.size + 1, 0, none⟩) 0 0) [] := by rw [← hsz]; exact hL
  clear hwb hwl hsz
  obtain ⟨y0, y1, y2, -, -, -⟩ := Box3.of (block_keep g0 bL)
  rw [HWL.out, HWB.out] at y0 y1 y2
  by_cases hf : failure d k = 0
  case neg =>
    obtain ⟨f, hff⟩ : ∃ f, failure d k = f := ⟨_, rfl⟩
    have HR := Lib.hid (readD_off hff (by omega))
    have hq : (f != 0) = true := by rw [bne_iff_ne]; omega
    have HE := Lib.hid (show endD d k = -1 by unfold endD; rw [if_pos hf])
    have HC := Lib.hid (show recordsD d k = [] by unfold recordsD; rw [if_pos hf])
    clear hff hf
    go_enter Try.func74, Try.ntmps74
    go_wp2_with fail
    rw [← HWB.out, ← HWL.out]
    (with_reducible refine (rRead_any _ d k _ ((h0.keep b0).keep bL)).mono ?_)
    intro e w3 hres
    obtain ⟨a, c, rfl, tp, b3⟩ := hres.to HR
    go_wp2
    go_ret2
    exact ⟨_, by rw [HE.out]; rfl, by rw [HC.out]; exact (hL.is (by simp) (by simp)).keep b3, below_trans b0 (below_trans bL b3)⟩
  case pos =>
    obtain ⟨hfm, hdn, hk0, hk1⟩ := failure_zero hf
    obtain ⟨n, rfl⟩ := Int.eq_ofNat_of_zero_le hk0
    have hn4 : n < 400 := by omega
    have HFM := Lib.hid hfm
    have HDN := Lib.hid hdn
    have HR := Lib.hid (readD_on hf)
    have HE := Lib.hid (show endD d n = ((walkL (pagesOf d) 400 n).2 : Nat) by unfold endD; rw [if_neg (by simp [hf])]; rfl)
    have HC := Lib.hid (show recordsD d n = (walkL (pagesOf d) 400 n).1 by unfold recordsD; rw [if_neg (by simp [hf])]; rfl)
    clear hf hfm hdn hk0 hk1
    go_enter Try.func74, Try.ntmps74
    go_wp2_with fail
    rw [← HWB.out, ← HWL.out]
    (with_reducible refine (rRead_any _ d n _ ((h0.keep b0).keep bL)).mono ?_)
    intro e w3 hres
    obtain ⟨a, c, rfl, tp, b3⟩ := hres.to HR
    have hh := h0.keep b0
    have hO3 := hL.keep b3
    have b03 := below_trans bL b3
    clear hres y0 y1 y2 tp hL bL b3
    go_wp2
    go_loopw [6, 9, 10, 11, 12] (fun ov iv _ _ _ wr => ∃ (L : List (List UInt8)) (z : Nat), z ≤ 400 ∧ n + L.length ≤ z ∧ iv = .int .i64 z ∧ Hid (Chain (pagesOf d) n L z) ∧ OwnR wr wb.heap.size ov L ∧ Below wb.heap.size wb wr) (fun _ iv _ _ _ _ => 400 - (intOf iv).toNat)
    case atStart => exact ⟨[], n, by omega, by simp, rfl, Lib.hid (.nil _), hO3, b03⟩
    case round =>
      clear hO3 b03
      obtain ⟨L, z, hz4, hLz, rfl, HCH, hO, hB⟩ := hrel
      obtain ⟨wo, rfl⟩ : ∃ wo : World, wo = wr := ⟨_, rfl⟩
      obtain ⟨va, vc, rfl, _⟩ := hO.len
      by_cases hlt : z < 400
      · have hd : decide (z < 400) = true := decide_eq_true hlt
        have hd' : decide ((z : Int) < 400) = true := decide_eq_true (by omega)
        obtain ⟨y0, y1, y2, -, -, -⟩ := Box3.of (block_keep g0 hB)
        go_wp2_with fail
        have hfz : failure d z = 0 := failure_ok HFM.out HDN.out (by omega) (by omega)
        (with_reducible refine (next_any _ d z _ (hh.keep hB) hfz).mono ?_)
        rintro e w4 ⟨u, zz, ok, rfl, b4, hno, hyes⟩
        clear hfz y0 y1 y2
        cases he : entryAt (pagesOf d) z with
        | none =>
          obtain rfl := hno he
          have HH := Lib.hid (walk_is HCH.out (.inr he))
          clear hno hyes he
          go_wp2
          go_ret2
          exact ⟨_, by rw [HE.out, HH.out]; rfl, by rw [HC.out, HH.out]; exact (hO.is (by omega) (chain_bytes HCH.out)).keep b4, below_trans b0 (below_trans hB b4)⟩
        | some x =>
          obtain ⟨r, e⟩ := x
          obtain ⟨rfl, rfl, hu⟩ := hyes r e he
          obtain ⟨ug, uc, ucur, rfl, -, -, -, -, -, -⟩ := id hu.form
          have h1 := entryAt_lt he
          have HCH2 := Lib.hid (Chain.snoc HCH.out hlt he)
          have hLk : L.length ≤ 1000 := by omega
          have hs := hB.size
          clear hno hyes he
          go_wp2_with (at_builtin; refine wpList_pushR (wr := wo) rfl (.tmp 35) (.tmp 37) 22 rfl Try.underlying22 rfl rfl hO (below_alloc' b4) (OwnB.keep hu (below_new _ _)) hs (heap_alloc_new w4 _) hLk ?_; intro g' cap' w5 hO5 b5 _)
          go_roundw
          case rel => exact ⟨L ++ [r], e, h1.2, by rw [List.length_append]; simp; omega, rfl, HCH2, hO5, hB.trans b5⟩
          case measure => simp [intOf]; omega
      · have hd : decide (z < 400) = false := decide_eq_false hlt
        have hd' : decide ((z : Int) < 400) = false := decide_eq_false (by omega)
        have HH := Lib.hid (walk_is HCH.out (.inl (by omega)))
        go_wp2
        go_ret2
        exact ⟨_, by rw [HE.out, HH.out]; rfl, by rw [HC.out, HH.out]; exact hO.is (by omega) (chain_bytes HCH.out), below_trans b0 hB⟩
set_option maxHeartbeats 2000000 in
set_option maxRecDepth 100000 in
theorem rRecords_any (v : Value) (d : Dk) (k : Int) (w : World) (h : IsDisk w v d) : Calls Try.prog 50 #[v, .int .i64 k] w (PagesRet (recordsD d k) w) := by
  have h0 := h
  obtain ⟨pa, pc, wa, wk, rfl, -, -, m1, m2, m3⟩ := h.shape
  have b0 := below_new w (.cells #[.slice pa d.pages.length pc, .slice wa d.writes.length wk, .bool d.down] 25)
  have g0 := heap_alloc_new w (.cells #[.slice pa d.pages.length pc, .slice wa d.writes.length wk, .bool d.down] 25)
  obtain ⟨wb, hwb⟩ : ∃ x : World, x = w.alloc (.cells #[.slice pa d.pages.length pc, .slice wa d.writes.length wk, .bool d.down] 25) := ⟨_, rfl⟩
  rw [← hwb] at b0 g0
  obtain ⟨y0, y1, y2, -, -, -⟩ := Box3.of g0
  go_enter Try.func50, Try.ntmps50
  go_wp2_with fail
  rw [← hwb]
  clear hwb
  (with_reducible refine (rread_any _ d k _ (h0.keep b0)).mono ?_)
  rintro e w3 ⟨u, rfl, hu, b3⟩
  go_wp2
  go_ret
  exact ⟨_, rfl, hu, below_trans b0 b3⟩
set_option maxHeartbeats 2000000 in
set_option maxRecDepth 100000 in
theorem rEnd_any (v : Value) (d : Dk) (k : Int) (w : World) (h : IsDisk w v d) : Calls Try.prog 51 #[v, .int .i64 k] w <| fun e w' => e = .returned (.int .i64 (endD d k)) ∧ Below w.heap.size w w' := by
  have h0 := h
  obtain ⟨pa, pc, wa, wk, rfl, -, -, m1, m2, m3⟩ := h.shape
  have b0 := below_new w (.cells #[.slice pa d.pages.length pc, .slice wa d.writes.length wk, .bool d.down] 25)
  have g0 := heap_alloc_new w (.cells #[.slice pa d.pages.length pc, .slice wa d.writes.length wk, .bool d.down] 25)
  obtain ⟨wb, hwb⟩ : ∃ x : World, x = w.alloc (.cells #[.slice pa d.pages.length pc, .slice wa d.writes.length wk, .bool d.down] 25) := ⟨_, rfl⟩
  rw [← hwb] at b0 g0
  obtain ⟨y0, y1, y2, -, -, -⟩ := Box3.of g0
  go_enter Try.func51, Try.ntmps51
  go_wp2_with fail
  rw [← hwb]
  clear hwb
  (with_reducible refine (rread_any _ d k _ (h0.keep b0)).mono ?_)
  rintro e w3 ⟨u, rfl, hu, b3⟩
  go_wp2
  go_ret
  exact ⟨rfl, below_trans b0 b3⟩
end Go.Proofs.Ytcembocnkndlhaa
/- The reference's walk: Write. -/
namespace Go.Proofs.Ytcembocnkndlhaa
open Go.RowKit
set_option maxHeartbeats 4000000 in
set_option maxRecDepth 100000 in
theorem rWrite_any (v : Value) (d : Dk) (k : Int) (bv : Value) (l : List UInt8) (w : World) (h : IsDisk w v d) (hb : IsBytes w bv l) (hl : d.writes.length ≤ 100000000) :
    Calls Try.prog 20 #[v, .int .i64 k, bv] w (DiskErr (writeD d k l) w) := by
  have h0 := h
  have hb0 := hb
  obtain ⟨pa, pc, wa, wcp, rfl, hp, hw, m1, m2, m3⟩ := h.shape
  obtain ⟨ba, bc, rfl, -, mb⟩ := hb
  obtain ⟨C, hC⟩ : ∃ C, C = Obj.cells #[.slice pa d.pages.length pc, .slice wa d.writes.length wcp, .bool d.down] 25 := ⟨_, rfl⟩
  obtain ⟨Z, hZ⟩ : ∃ Z, Z = Obj.cells #[.slice none 0 0, .slice none 0 0, .bool false] 25 := ⟨_, rfl⟩
  obtain ⟨wb, hwb⟩ : ∃ x : World, x = (w.alloc C).alloc Z := ⟨_, rfl⟩
  have b1 := below_new w C
  have b2 : Below (w.alloc C).heap.size (w.alloc C) wb := by subst hwb; exact below_new _ _
  have b0 := below_trans b1 b2
  have g0 : wb.heap[w.heap.size]? = some (.cells #[.slice pa d.pages.length pc, .slice wa d.writes.length wcp, .bool d.down] 25 (0, 0)) := by
    subst hC; exact box_at b2
  have g1 : wb.heap[w.heap.size + 1]? = some (.cells #[.slice none 0 0, .slice none 0 0, .bool false] 25 (0, 0)) := by
    subst hwb hZ
    have := heap_alloc_new (w.alloc C) (.cells #[.slice none 0 0, .slice none 0 0, .bool false] 25)
    simpa using this
  have hsb : w.heap.size + 1 + 1 ≤ wb.heap.size := by subst hwb; simp
  by_cases h64 : 64 < l.length
  · have H := Lib.hid (show writeD d k l = (noDisk, 1) by unfold writeD; rw [if_pos (by omega)])
    go_enter Try.func20, Try.ntmps20
    go_wp2
    refine bodyPost_ret (v := .tuple #[zeroV, .int .i64 1]) (by simp [results, Try.results20, go_sem, zeroV]) rfl ?_
    rw [← hC, ← hZ, ← hwb]
    exact ⟨zeroV, by rw [H.out], by rw [H.out]; exact IsDisk.zero _, b0⟩
  have h64' : l.length ≤ 64 := by omega
  by_cases hf : failure d k = 0
  case neg =>
    have H := Lib.hid (show writeD d k l = (noDisk, failure d k) by unfold writeD; rw [if_neg h64, if_pos hf])
    have hne := ne_beq hf
    have hbq : (failure d k != 0) = true := by simpa using hf
    generalize hR : failure d k = R at *
    have HR := Lib.hid hR
    clear hR
    go_enter Try.func20, Try.ntmps20
    go_wp2_with fail
    rw [← hC, ← hZ, ← hwb]
    refine (rfailure_eq (h0.keep b0) _ HR.out).mono ?_
    rintro e w3 ⟨rfl, b3⟩
    obtain ⟨u0, u1, u2, uf0, uf1, uf2⟩ := Box3.of (block_keep g1 b3)
    go_wp2
    refine bodyPost_ret (v := .tuple #[zeroV, .int .i64 R]) (by simp [results, Try.results20, go_sem, zeroV, u0, u1, u2]) rfl ?_
    refine ⟨zeroV, by rw [H.out], by rw [H.out]; exact IsDisk.zero _, ?_⟩
    exact (((below_trans b0 b3).setCell (p := ⟨w.heap.size + 1, 0, none⟩) (by simp) _).setCell (p := ⟨w.heap.size + 1, 1, none⟩) (by simp) _).setCell (p := ⟨w.heap.size + 1, 2, none⟩) (by simp) _
  have hform := (failure_zero hf).1
  have H := Lib.hid (show writeD d k l = (⟨d.pages, d.writes ++ [⟨k, rfull l⟩], false⟩, 0) by unfold writeD; rw [if_neg h64, if_neg (by simp [hf]), full_rfull h64', (failure_zero hf).2.1])
  have HW := Lib.hid (((formed_iff d).1 hform).2.2.1)
  have HP := Lib.hid (((formed_iff d).1 hform).2.1)
  have hpl : d.pages.length ≤ 400 := ((formed_iff d).1 hform).1
  have HF := Lib.hid hf
  clear hf hform
  go_enter Try.func20, Try.ntmps20
  go_wp2_with fail
  rw [← hC, ← hZ, ← hwb]
  clear hC hZ hwb b2
  refine (rfailure_eq (h0.keep b0) _ HF.out).mono ?_
  rintro e w3 ⟨rfl, b3⟩
  have b03 := below_trans b0 b3
  obtain ⟨y0, y1, y2, -, -, -⟩ := Box3.of (block_keep g0 b3)
  go_wp2_with fail
  refine (rpages_any _ d.pages _ (hp.keep b03) (by omega) (Lib.hid fun p hp => by have := HP.out p hp; omega)).mono ?_
  rintro e w5 ⟨pv, rfl, hO5, b5⟩
  obtain ⟨va, vc, rfl, hvc⟩ := hO5.len
  have hIP : IsPages w5 (.slice va d.pages.length vc) d.pages := hO5.is (by omega) fun p hp => by have := HP.out p hp; omega
  have b35 := below_trans b3 b5
  have b05 := below_trans b0 b35
  have g05 := block_keep g0 b35
  have g15 := block_keep g1 b35
  have hs5 := b35.size
  have hR5 := Lib.hid hO5
  clear y0 y1 y2 hO5 g0 g1
  have hg5 := heap_alloc_new w5 (.cells #[.slice va d.pages.length vc, .slice none 0 0, .bool false] 25)
  have bN5 := below_new w5 (.cells #[.slice va d.pages.length vc, .slice none 0 0, .bool false] 25)
  have hsz5 : w5.heap.size + 1 ≤ (w5.alloc (.cells #[.slice va d.pages.length vc, .slice none 0 0, .bool false] 25)).heap.size := by simp
  obtain ⟨y0, y1, y2, -, -, -⟩ := Box3.of (block_keep g05 bN5)
  go_wp2
  go_loopw [10] (fun i wr => ∃ (j : Nat) (wv : Value), j ≤ d.writes.length ∧ i = .int .i64 j ∧ wr.heap[w5.heap.size]? = some (.cells #[.slice va d.pages.length vc, wv, .bool false] 25 (0, 0)) ∧ OwnW wr (w5.heap.size + 1) wv (d.writes.take j) ∧ Below w5.heap.size w5 wr ∧ w5.heap.size + 1 ≤ wr.heap.size) (fun i _ => d.writes.length - (intOf i).toNat)
  case atStart => exact ⟨0, _, Nat.zero_le _, rfl, hg5, OwnW.nil _ _, bN5, hsz5⟩
  case round =>
    obtain ⟨j, wv, hj, rfl, hgr, hOr, hbr, hsr⟩ := hrel
    obtain ⟨wo, rfl⟩ : ∃ wo : World, wo = wr := ⟨_, rfl⟩
    clear y0 y1 y2
    obtain ⟨y0, y1, y2, -, -, -⟩ := Box3.of (block_keep g05 hbr)
    have b0o := below_trans b05 hbr
    obtain ⟨xa, xc, rfl, hxc⟩ := hOr.len
    obtain ⟨z0, z1, z2, zf0, zf1, zf2⟩ := Box3.of hgr
    have h5a : w.heap.size ≠ w5.heap.size := by omega
    have h5b : w.heap.size + 1 ≠ w5.heap.size := by omega
    have HS2 : ∀ W, Below (w5.heap.size + 1) wo W → W.cell? ⟨w5.heap.size, 0, none⟩ = some (.slice va d.pages.length vc) ∧ W.cell? ⟨w5.heap.size, 1, none⟩ = some (.slice xa (d.writes.take j).length xc) ∧ W.frozen? ⟨w5.heap.size, 1, none⟩ = false := fun W hW =>
      ⟨(hW.cell (p := ⟨w5.heap.size, 0, none⟩) (by simp)).trans z0, (hW.cell (p := ⟨w5.heap.size, 1, none⟩) (by simp)).trans z1, (hW.frozen (p := ⟨w5.heap.size, 1, none⟩) (by simp)).trans zf1⟩
    have HY : ∀ W, Below w5.heap.size wo W → W.cell? ⟨w.heap.size, 1, none⟩ = some (.slice wa d.writes.length wcp) := fun W hW => (hW.cell (p := ⟨w.heap.size, 1, none⟩) (by simp; omega)).trans y1
    have hTl : (d.writes.take j).length = j := by rw [List.length_take]; omega
    have HTL := Lib.hid hTl
    have hTb : (d.writes.take j).length ≤ 1000000000 := by omega
    by_cases hlt : j < d.writes.length
    · obtain ⟨b, off, da, dc, rfl, c0, c1, hB⟩ := hw.at_ (List.getElem?_eq_getElem hlt)
      have HM := Lib.hid (HW.out d.writes[j] (List.getElem_mem hlt))
      have HT := Lib.hid (List.take_succ_eq_append_getElem hlt)
      have HC0 : ∀ W, Below w.heap.size w W → W.cell? ⟨b, off + j * 2, none⟩ = some (.int .i64 d.writes[j].at_) := fun W hW => cell_keep hW c0
      have HC1 : ∀ W, Below w.heap.size w W → W.cell? ⟨b, off + j * 2 + 1, none⟩ = some (.slice da d.writes[j].data.length dc) := fun W hW => cell_keep hW c1
      have HB := fun W (hW : Below w.heap.size w W) => IsBytes.keep hB hW
      generalize d.writes[j] = x at *
      generalize d.writes.take j = T at *
      clear c0 c1 hTl
      have hI0 : (0 : Int) ≤ (j : Int) := by omega
      have hI1 : (j : Int) < (d.writes.length : Int) := by omega
      have hxl : x.data.length ≤ 100000 := by have := HM.out.2.2; omega
      have HALL : ∀ W, Below wo.heap.size wo W → W.cell? ⟨w5.heap.size, 1, none⟩ = some (.slice xa T.length xc) ∧ W.cell? ⟨w.heap.size, 1, none⟩ = some (.slice (some ⟨b, off, none⟩) d.writes.length wcp) ∧ W.cell? ⟨b, off + j * 2, none⟩ = some (.int .i64 x.at_) ∧ W.cell? ⟨b, off + j * 2 + 1, none⟩ = some (.slice da x.data.length dc) := fun W hW =>
        ⟨(HS2 W (hW.mono hsr)).2.1, HY W (hW.mono (by omega)), HC0 W (below_trans b0o hW), HC1 W (below_trans b0o hW)⟩
      have HALL2 : ∀ W, Below (w5.heap.size + 1) wo W → W.cell? ⟨w5.heap.size, 1, none⟩ = some (.slice xa T.length xc) ∧ W.cell? ⟨w.heap.size, 1, none⟩ = some (.slice (some ⟨b, off, none⟩) d.writes.length wcp) ∧ W.cell? ⟨b, off + j * 2, none⟩ = some (.int .i64 x.at_) ∧ W.cell? ⟨b, off + j * 2 + 1, none⟩ = some (.slice da x.data.length dc) := fun W hW =>
        ⟨(HS2 W hW).2.1, HY W (hW.mono (by omega)), HC0 W (b0o.trans (hW.mono (by omega))), HC1 W (b0o.trans (hW.mono (by omega)))⟩
      have hbse : w5.heap.size + 1 ≤ wo.heap.size := hsr
      go_wp2
      refine wp_region_noPanic ?_
      refine wp_region_late (fun w' => w'.cell? ⟨w5.heap.size, 1, none⟩ = some (.slice xa T.length xc) ∧ w'.cell? ⟨w.heap.size, 1, none⟩ = some (.slice (some ⟨b, off, none⟩) d.writes.length wcp) ∧ w'.cell? ⟨b, off + j * 2, none⟩ = some (.int .i64 x.at_) ∧ w'.cell? ⟨b, off + j * 2 + 1, none⟩ = some (.slice da x.data.length dc)) 19 (by kernel_rfl) (HALL _ (below_drew' (Below.refl _ _))) (fun hHeld => ?_)
      refine any_take (by kernel_rfl) (i := 0) (oi := _) (v := ?_) rfl rfl (by kernel_rfl) (by kernel_rfl) (by kernel_rfl) (fun _ _ _ h => h) (Or.inl ⟨by rfl, ?_⟩) hHeld ?_
      rotate_left
      · intro w' hSw; try dsimp only at hSw
        go_simp
        try with_reducible rfl
      try simp only [puts]
      refine any_take (by kernel_rfl) (i := 1) (oi := _) (v := ?_) rfl rfl (by kernel_rfl) (by kernel_rfl) (by kernel_rfl) (fun _ _ _ h => h) (Or.inl ⟨by rfl, ?_⟩) hHeld ?_
      rotate_left
      · intro w' hSw; try dsimp only at hSw
        go_simp
        try with_reducible rfl
      try simp only [puts]
      refine any_take (by kernel_rfl) (i := 2) (oi := _) (v := ?_) rfl rfl (by kernel_rfl) (by kernel_rfl) (by kernel_rfl) (fun _ _ _ h => h) (Or.inl ⟨by rfl, ?_⟩) hHeld ?_
      rotate_left
      · intro w' hSw; try dsimp only at hSw
        go_simp
        try with_reducible rfl
      try simp only [puts]
      refine any_take (by kernel_rfl) (i := 3) (oi := _) (v := ?_) rfl rfl (by kernel_rfl) (by kernel_rfl) (by kernel_rfl) (fun _ _ _ h => h) (Or.inl ⟨by rfl, ?_⟩) hHeld ?_
      rotate_left
      · intro w' hSw; try dsimp only at hSw
        go_simp
        try with_reducible rfl
      try simp only [puts]
      refine any_take (by kernel_rfl) (i := 4) (oi := _) (v := ?_) rfl rfl (by kernel_rfl) (by kernel_rfl) (by kernel_rfl) (fun _ _ _ h => h) (Or.inl ⟨by rfl, ?_⟩) hHeld ?_
      rotate_left
      · intro w' hSw; try dsimp only at hSw
        go_simp
        try with_reducible rfl
      try simp only [puts]
      refine any_take (by kernel_rfl) (i := 5) (oi := _) (v := ?_) rfl rfl (by kernel_rfl) (by kernel_rfl) (by kernel_rfl) (fun _ _ _ h => h) (Or.inl ⟨by rfl, ?_⟩) hHeld ?_
      rotate_left
      · intro w' hSw; try dsimp only at hSw
        go_simp
        try with_reducible rfl
      try simp only [puts]
      refine any_take (by kernel_rfl) (i := 6) (oi := _) (v := ?_) rfl rfl (by kernel_rfl) (by kernel_rfl) (by kernel_rfl) (fun _ _ _ h => h) (Or.inl ⟨by rfl, ?_⟩) hHeld ?_
      rotate_left
      · intro w' hSw; try dsimp only at hSw
        go_simp
        try with_reducible rfl
      try simp only [puts]
      refine any_take (by kernel_rfl) (i := 7) (oi := _) (v := ?_) rfl rfl (by kernel_rfl) (by kernel_rfl) (by kernel_rfl) (fun _ _ _ h => h) (Or.inl ⟨by rfl, ?_⟩) hHeld ?_
      rotate_left
      · intro w' hSw; try dsimp only at hSw
        go_simp
        try with_reducible rfl
      try simp only [puts]
      refine any_take (by kernel_rfl) (i := 8) (oi := _) (v := ?_) rfl rfl (by kernel_rfl) (by kernel_rfl) (by kernel_rfl) (fun _ _ _ h => h) (Or.inl ⟨by rfl, ?_⟩) hHeld ?_
      rotate_left
      · intro w' hSw; try dsimp only at hSw
        go_simp
        try with_reducible rfl
      try simp only [puts]
      refine any_take (by kernel_rfl) (i := 9) (oi := _) (v := ?_) rfl rfl (by kernel_rfl) (by kernel_rfl) (by kernel_rfl) (fun _ _ _ h => h) (Or.inl ⟨by rfl, ?_⟩) hHeld ?_
      rotate_left
      · intro w' hSw; try dsimp only at hSw
        go_simp
        try with_reducible rfl
      try simp only [puts]
      refine any_take (by kernel_rfl) (i := 10) (oi := _) (v := ?_) rfl rfl (by kernel_rfl) (by kernel_rfl) (by kernel_rfl) (fun _ _ _ h => h) (Or.inl ⟨by rfl, ?_⟩) hHeld ?_
      rotate_left
      · intro w' hSw; try dsimp only at hSw
        go_simp
        try with_reducible rfl
      try simp only [puts]
      refine any_take (by kernel_rfl) (i := 11) (oi := _) (v := ?_) rfl rfl (by kernel_rfl) (by kernel_rfl) (by kernel_rfl) (fun _ _ _ h => h) (Or.inl ⟨by rfl, ?_⟩) hHeld ?_
      rotate_left
      · intro w' hSw; try dsimp only at hSw
        go_simp
        try with_reducible rfl
      try simp only [puts]
      refine any_take (by kernel_rfl) (i := 12) (oi := _) (v := ?_) rfl rfl (by kernel_rfl) (by kernel_rfl) (by kernel_rfl) (fun _ _ _ h => h) (Or.inl ⟨by rfl, ?_⟩) hHeld ?_
      rotate_left
      · intro w' hSw; try dsimp only at hSw
        go_simp
        try with_reducible rfl
      try simp only [puts]
      refine any_take (by kernel_rfl) (i := 13) (oi := _) (v := ?_) rfl rfl (by kernel_rfl) (by kernel_rfl) (by kernel_rfl) (fun _ _ _ h => h) (Or.inl ⟨by rfl, ?_⟩) hHeld ?_
      rotate_left
      · intro w' hSw; try dsimp only at hSw
        go_simp
        try with_reducible rfl
      try simp only [puts]
      refine any_next (i := 14) (by kernel_rfl) rfl rfl (fun K hK => ?_)
      go_simp
      go_at_call 35
      refine rFull_ts (HB _ (below_trans b0o (below_drew' (Below.refl _ _)))) hxl ?_
      intro g c wF hF bF
      have hF : OwnB wF wo.heap.size (.slice (some ⟨g, 0, none⟩) (rfull x.data).length c) (rfull x.data) := hF
      have bF : Below wo.heap.size wo wF := below_undrew bF
      refine hK.out _ _ ?_ (fun hHeld => ?_)
      · exact HALL _ bF
      clear hK K
      try simp only [puts]
      refine any_take (by kernel_rfl) (i := 15) (oi := _) (v := ?_) rfl rfl (by kernel_rfl) (by kernel_rfl) (by kernel_rfl) (fun _ _ _ h => h) (Or.inl ⟨by rfl, ?_⟩) hHeld ?_
      rotate_left
      · intro w' hSw; try dsimp only at hSw
        go_simp
        try with_reducible rfl
      try simp only [puts]
      refine any_next (i := 16) (by kernel_rfl) rfl rfl (fun K hK => ?_)
      go_simp
      refine hK.out _ _ ?_ (fun hHeld => ?_)
      · exact HALL _ (below_alloc' bF)
      clear hK K
      try simp only [puts]
      refine any_next (i := 17) (by kernel_rfl) rfl rfl (fun K hK => ?_)
      refine step_pushW (wr := wo) (x := ⟨x.at_, rfull x.data⟩) (g1 := wF.heap.size) rfl (.tmp 34) (.tmp 49) (by rfl) (by rfl) (by rfl) hOr (below_alloc' bF) (OwnB.keep hF (below_new _ _)) hbse (heap_alloc_new wF _) hTb ?_
      intro g' cap' w6 hO6 b6
      refine hK.out _ _ ?_ (fun hHeld => ?_)
      · exact HALL2 _ b6
      clear hK K
      try simp only [puts]
      refine any_take (by kernel_rfl) (i := 18) (oi := _) (v := ?_) rfl rfl (by kernel_rfl) (by kernel_rfl) (by kernel_rfl) (fun _ _ _ h => h) (Or.inl ⟨by rfl, ?_⟩) hHeld ?_
      rotate_left
      · intro w' hSw; try dsimp only at hSw
        go_simp
        try with_reducible rfl
      try simp only [puts]
      refine any_late (i := 19) (by kernel_rfl) rfl rfl (fun K hK => ?_)
      go_simp
      refine hK.out _ _ ?_
      clear hK K
      try simp only [puts]
      refine any_done (by kernel_rfl) ?_ _
      refine NoPanic.normal ?_
      go_wp2
      go_roundw
      case rel =>
        have hg6 : w6.heap[w5.heap.size]? = some (.cells #[.slice va d.pages.length vc, .slice xa T.length xc, .bool false] 25 (0, 0)) := (b6.block _ (by omega)).trans hgr
        have e1 : (⟨x.at_, rfull x.data⟩ : Wt) = x := Wt.ext' rfl (rfull_self HM.out.2.2)
        rw [e1] at hO6
        refine ⟨j + 1, _, by omega, by go_num, box3_set1 hg6, ?_, (hbr.trans (b6.mono (by omega))).setCell (p := ⟨w5.heap.size, 1, none⟩) (by simp) _, by have := b6.size; simp [World.setCell]; omega⟩
        rw [HT.out]
        exact hO6.store (p := ⟨w5.heap.size, 1, none⟩) (by simp) _
      case measure => simp [intOf]; omega
    · have e : j = d.writes.length := by omega
      subst e
      rw [List.take_length] at hOr hgr HS2 hTb z1
      have HALL : ∀ W, Below wo.heap.size wo W → W.cell? ⟨w5.heap.size, 1, none⟩ = some (.slice xa d.writes.length xc) := fun W hW => (HS2 W (hW.mono hsr)).2.1
      have HALL2 : ∀ W, Below (w5.heap.size + 1) wo W → W.cell? ⟨w5.heap.size, 1, none⟩ = some (.slice xa d.writes.length xc) := fun W hW => (HS2 W hW).2.1
      have HF2 : ∀ W, Below (w5.heap.size + 1) wo W → W.frozen? ⟨w5.heap.size, 1, none⟩ = false := fun W hW => (HS2 W hW).2.2
      have HB := fun W (hW : Below w.heap.size w W) => IsBytes.keep hb0 hW
      have hbse : w5.heap.size + 1 ≤ wo.heap.size := hsr
      clear hTl HS2
      go_wp2
      refine wp_region_noPanic ?_
      refine wp_region_late (fun w' => w'.cell? ⟨w5.heap.size, 1, none⟩ = some (.slice xa d.writes.length xc)) 9 (by kernel_rfl) (HALL _ (below_drew' (Below.refl _ _))) (fun hHeld => ?_)
      refine any_take (by kernel_rfl) (i := 0) (oi := _) (v := ?_) rfl rfl (by kernel_rfl) (by kernel_rfl) (by kernel_rfl) (fun _ _ _ h => h) (Or.inl ⟨by rfl, ?_⟩) hHeld ?_
      rotate_left
      · intro w' hSw; try dsimp only at hSw
        go_simp
        try with_reducible rfl
      try simp only [puts]
      refine any_take (by kernel_rfl) (i := 1) (oi := _) (v := ?_) rfl rfl (by kernel_rfl) (by kernel_rfl) (by kernel_rfl) (fun _ _ _ h => h) (Or.inl ⟨by rfl, ?_⟩) hHeld ?_
      rotate_left
      · intro w' hSw; try dsimp only at hSw
        go_simp
        try with_reducible rfl
      try simp only [puts]
      refine any_take (by kernel_rfl) (i := 2) (oi := _) (v := ?_) rfl rfl (by kernel_rfl) (by kernel_rfl) (by kernel_rfl) (fun _ _ _ h => h) (Or.inl ⟨by rfl, ?_⟩) hHeld ?_
      rotate_left
      · intro w' hSw; try dsimp only at hSw
        go_simp
        try with_reducible rfl
      try simp only [puts]
      refine any_take (by kernel_rfl) (i := 3) (oi := _) (v := ?_) rfl rfl (by kernel_rfl) (by kernel_rfl) (by kernel_rfl) (fun _ _ _ h => h) (Or.inl ⟨by rfl, ?_⟩) hHeld ?_
      rotate_left
      · intro w' hSw; try dsimp only at hSw
        go_simp
        try with_reducible rfl
      try simp only [puts]
      refine any_next (i := 4) (by kernel_rfl) rfl rfl (fun K hK => ?_)
      go_simp
      go_at_call 35
      refine rFull_ts (HB _ (below_trans b0o (below_drew' (Below.refl _ _)))) (by omega) ?_
      intro g c wF hF bF
      have hF : OwnB wF wo.heap.size (.slice (some ⟨g, 0, none⟩) (rfull l).length c) (rfull l) := hF
      have bF : Below wo.heap.size wo wF := below_undrew bF
      refine hK.out _ _ ?_ (fun hHeld => ?_)
      · exact HALL _ bF
      clear hK K
      try simp only [puts]
      refine any_take (by kernel_rfl) (i := 5) (oi := _) (v := ?_) rfl rfl (by kernel_rfl) (by kernel_rfl) (by kernel_rfl) (fun _ _ _ h => h) (Or.inl ⟨by rfl, ?_⟩) hHeld ?_
      rotate_left
      · intro w' hSw; try dsimp only at hSw
        go_simp
        try with_reducible rfl
      try simp only [puts]
      refine any_next (i := 6) (by kernel_rfl) rfl rfl (fun K hK => ?_)
      go_simp
      refine hK.out _ _ ?_ (fun hHeld => ?_)
      · exact HALL _ (below_alloc' bF)
      clear hK K
      try simp only [puts]
      refine any_next (i := 7) (by kernel_rfl) rfl rfl (fun K hK => ?_)
      refine step_pushW (wr := wo) (x := ⟨k, rfull l⟩) (g1 := wF.heap.size) rfl (.tmp 53) (.tmp 58) (by rfl) (by rfl) (by rfl) hOr (below_alloc' bF) (OwnB.keep hF (below_new _ _)) hbse (heap_alloc_new wF _) hTb ?_
      intro g' cap' w6 hO6 b6
      have f6 := HF2 _ b6
      refine hK.out _ _ ?_ (fun hHeld => ?_)
      · exact HALL2 _ b6
      clear hK K
      try simp only [puts]
      refine any_take (by kernel_rfl) (i := 8) (oi := _) (v := ?_) rfl rfl (by kernel_rfl) (by kernel_rfl) (by kernel_rfl) (fun _ _ _ h => h) (Or.inl ⟨by rfl, ?_⟩) hHeld ?_
      rotate_left
      · intro w' hSw; try dsimp only at hSw
        go_simp
        try with_reducible rfl
      try simp only [puts]
      refine any_late (i := 9) (by kernel_rfl) rfl rfl (fun K hK => ?_)
      go_simp
      refine hK.out _ _ ?_
      clear hK K
      try simp only [puts]
      refine any_done (by kernel_rfl) ?_ _
      refine NoPanic.normal ?_
      have hg6 : w6.heap[w5.heap.size]? = some (.cells #[.slice va d.pages.length vc, .slice xa d.writes.length xc, .bool false] 25 (0, 0)) := (b6.block _ (by omega)).trans hgr
      have hg6' := box3_set1 (x := .slice (some ⟨g', 0, none⟩) (d.writes.length + 1) cap') hg6
      have bb6 : Below w5.heap.size w5 (w6.setCell ⟨w5.heap.size, 1, none⟩ (.slice (some ⟨g', 0, none⟩) (d.writes.length + 1) cap')) := (hbr.trans (b6.mono (by omega))).setCell (p := ⟨w5.heap.size, 1, none⟩) (by simp) _
      obtain ⟨y0, y1, y2, -, -, -⟩ := Box3.of hg6'
      obtain ⟨u0, u1, u2, uf0, uf1, uf2⟩ := Box3.of (block_keep g15 bb6)
      go_wp2
      refine bodyPost_ret (v := .tuple #[.agg #[.slice va d.pages.length vc, .slice (some ⟨g', 0, none⟩) (d.writes.length + 1) cap', .bool false], .int .i64 0]) (by simp [results, Try.results20, go_sem, u0, u1, u2]) rfl ?_
      have bF := (((below_trans b05 bb6).setCell (p := ⟨w.heap.size + 1, 0, none⟩) (by simp) (.slice va d.pages.length vc)).setCell (p := ⟨w.heap.size + 1, 1, none⟩) (by simp) (.slice (some ⟨g', 0, none⟩) (d.writes.length + 1) cap')).setCell (p := ⟨w.heap.size + 1, 2, none⟩) (by simp) (.bool false)
      have pF := (((hO6.store (p := ⟨w5.heap.size, 1, none⟩) (by simp) (.slice (some ⟨g', 0, none⟩) (d.writes.length + 1) cap')).store (p := ⟨w.heap.size + 1, 0, none⟩) (by simp; omega) (.slice va d.pages.length vc)).store (p := ⟨w.heap.size + 1, 1, none⟩) (by simp; omega) (.slice (some ⟨g', 0, none⟩) (d.writes.length + 1) cap')).store (p := ⟨w.heap.size + 1, 2, none⟩) (by simp; omega) (.bool false)
      have hs3 := b3.size
      have rF := ((((hR5.out.keep bb6)).store (p := ⟨w.heap.size + 1, 0, none⟩) (by simp; omega) (.slice va d.pages.length vc)).store (p := ⟨w.heap.size + 1, 1, none⟩) (by simp; omega) (.slice (some ⟨g', 0, none⟩) (d.writes.length + 1) cap')).store (p := ⟨w.heap.size + 1, 2, none⟩) (by simp; omega) (.bool false)
      refine ⟨_, by rw [H.out], ?_, bF⟩
      rw [H.out]
      refine ⟨_, _, rfl, rF.is (by omega) fun p hp => by have := HP.out p hp; omega, pF.is (by simp; omega) fun x hx => ?_⟩
      rcases List.mem_append.1 hx with hx | hx
      · have := (HW.out x hx).2.2; omega
      · obtain rfl := List.mem_singleton.1 hx
        simp [rfull, zeros]; omega
end Go.Proofs.Ytcembocnkndlhaa
/- The disk that the reference's Write hands back reads in every world that differs at older blocks alone. -/
namespace Go.Proofs.Ytcembocnkndlhaa
open Go.RowKit
theorem off_rw {B : Nat → Prop} {wF : World} {base base' : Nat} {pv wv : Value} {L : List (List UInt8)} {V : List Wt} {dn : Bool} (h : OwnR wF base pv L) (k : OwnW wF base' wv V) (hB : ∀ β, B β → β < base) (hB' : ∀ β, B β → β < base') (hm : L.length ≤ 9223372036854775807) (hl : ∀ l ∈ L, l.length ≤ 9223372036854775807) (hm' : V.length ≤ 9223372036854775807) (hl' : ∀ x ∈ V, x.data.length ≤ 9223372036854775807) : OffDisk B wF (.agg #[pv, wv, .bool dn]) ⟨L, V, dn⟩ := by
  obtain ⟨us, h1, h2, h3, h4⟩ := h
  obtain ⟨ps, k1, k2, k3⟩ := k
  refine ⟨pv, wv, ps, rfl, k2, fun W hW => ⟨?_, ?_, fun i p x hp hx => ⟨(k3 i p x hp hx).1, ?_⟩⟩⟩
  · have hag : ∀ i, base ≤ i → i < wF.heap.size → W.heap[i]? = wF.heap[i]? := fun i h1 h2 => hW i h2 fun e => by have := hB i e; omega
    exact OwnR.is (base := base) ⟨us, own_agree h1 hag, h2, fun i u l hu hll => ⟨⟨own_agree (h3 i u l hu hll).1.1 hag, (h3 i u l hu hll).1.2⟩, (h3 i u l hu hll).2⟩, h4⟩ hm hl
  · have hag : ∀ i, base' ≤ i → i < wF.heap.size → W.heap[i]? = wF.heap[i]? := fun i h1 h2 => hW i h2 fun e => by have := hB' i e; omega
    refine IsRows.of_owns (own_agree (by rw [k2]; exact k1) hag) (fun _ _ => rfl) (by rw [k2]; exact hm')
  · have hag : ∀ i, base' ≤ i → i < wF.heap.size → W.heap[i]? = wF.heap[i]? := fun i h1 h2 => hW i h2 fun e => by have := hB' i e; omega
    have := (k3 i p x hp hx).2
    exact OwnB.is (base := base') ⟨own_agree this.1 hag, this.2⟩ (hl' x (List.mem_of_getElem? hx))
set_option maxHeartbeats 4000000 in
set_option maxRecDepth 100000 in
theorem rWrite_off (B : Nat → Prop) (v : Value) (d : Dk) (k : Int) (bv : Value) (l : List UInt8) (w : World) (h : IsDisk w v d) (hb : IsBytes w bv l) (hl : d.writes.length ≤ 100000000) (hB : ∀ β, B β → β < w.heap.size) :
    Calls Try.prog 20 #[v, .int .i64 k, bv] w (DiskErrOff B (writeD d k l) w) := by
  have h0 := h
  have HBB := Lib.hid hB
  clear hB
  have hb0 := hb
  obtain ⟨pa, pc, wa, wcp, rfl, hp, hw, m1, m2, m3⟩ := h.shape
  obtain ⟨ba, bc, rfl, -, mb⟩ := hb
  obtain ⟨C, hC⟩ : ∃ C, C = Obj.cells #[.slice pa d.pages.length pc, .slice wa d.writes.length wcp, .bool d.down] 25 := ⟨_, rfl⟩
  obtain ⟨Z, hZ⟩ : ∃ Z, Z = Obj.cells #[.slice none 0 0, .slice none 0 0, .bool false] 25 := ⟨_, rfl⟩
  obtain ⟨wb, hwb⟩ : ∃ x : World, x = (w.alloc C).alloc Z := ⟨_, rfl⟩
  have b1 := below_new w C
  have b2 : Below (w.alloc C).heap.size (w.alloc C) wb := by subst hwb; exact below_new _ _
  have b0 := below_trans b1 b2
  have g0 : wb.heap[w.heap.size]? = some (.cells #[.slice pa d.pages.length pc, .slice wa d.writes.length wcp, .bool d.down] 25 (0, 0)) := by
    subst hC; exact box_at b2
  have g1 : wb.heap[w.heap.size + 1]? = some (.cells #[.slice none 0 0, .slice none 0 0, .bool false] 25 (0, 0)) := by
    subst hwb hZ
    have := heap_alloc_new (w.alloc C) (.cells #[.slice none 0 0, .slice none 0 0, .bool false] 25)
    simpa using this
  have hsb : w.heap.size + 1 + 1 ≤ wb.heap.size := by subst hwb; simp
  by_cases h64 : 64 < l.length
  · have H := Lib.hid (show writeD d k l = (noDisk, 1) by unfold writeD; rw [if_pos (by omega)])
    go_enter Try.func20, Try.ntmps20
    go_wp2
    refine bodyPost_ret (v := .tuple #[zeroV, .int .i64 1]) (by simp [results, Try.results20, go_sem, zeroV]) rfl ?_
    rw [← hC, ← hZ, ← hwb]
    exact ⟨zeroV, by rw [H.out], by rw [H.out]; exact OffDisk.zero B _, b0⟩
  have h64' : l.length ≤ 64 := by omega
  by_cases hf : failure d k = 0
  case neg =>
    have H := Lib.hid (show writeD d k l = (noDisk, failure d k) by unfold writeD; rw [if_neg h64, if_pos hf])
    have hne := ne_beq hf
    have hbq : (failure d k != 0) = true := by simpa using hf
    generalize hR : failure d k = R at *
    have HR := Lib.hid hR
    clear hR
    go_enter Try.func20, Try.ntmps20
    go_wp2_with fail
    rw [← hC, ← hZ, ← hwb]
    refine (rfailure_eq (h0.keep b0) _ HR.out).mono ?_
    rintro e w3 ⟨rfl, b3⟩
    obtain ⟨u0, u1, u2, uf0, uf1, uf2⟩ := Box3.of (block_keep g1 b3)
    go_wp2
    refine bodyPost_ret (v := .tuple #[zeroV, .int .i64 R]) (by simp [results, Try.results20, go_sem, zeroV, u0, u1, u2]) rfl ?_
    refine ⟨zeroV, by rw [H.out], by rw [H.out]; exact OffDisk.zero B _, ?_⟩
    exact (((below_trans b0 b3).setCell (p := ⟨w.heap.size + 1, 0, none⟩) (by simp) _).setCell (p := ⟨w.heap.size + 1, 1, none⟩) (by simp) _).setCell (p := ⟨w.heap.size + 1, 2, none⟩) (by simp) _
  have hform := (failure_zero hf).1
  have H := Lib.hid (show writeD d k l = (⟨d.pages, d.writes ++ [⟨k, rfull l⟩], false⟩, 0) by unfold writeD; rw [if_neg h64, if_neg (by simp [hf]), full_rfull h64', (failure_zero hf).2.1])
  have HW := Lib.hid (((formed_iff d).1 hform).2.2.1)
  have HP := Lib.hid (((formed_iff d).1 hform).2.1)
  have hpl : d.pages.length ≤ 400 := ((formed_iff d).1 hform).1
  have HF := Lib.hid hf
  clear hf hform
  go_enter Try.func20, Try.ntmps20
  go_wp2_with fail
  rw [← hC, ← hZ, ← hwb]
  clear hC hZ hwb b2
  refine (rfailure_eq (h0.keep b0) _ HF.out).mono ?_
  rintro e w3 ⟨rfl, b3⟩
  have b03 := below_trans b0 b3
  obtain ⟨y0, y1, y2, -, -, -⟩ := Box3.of (block_keep g0 b3)
  go_wp2_with fail
  refine (rpages_any _ d.pages _ (hp.keep b03) (by omega) (Lib.hid fun p hp => by have := HP.out p hp; omega)).mono ?_
  rintro e w5 ⟨pv, rfl, hO5, b5⟩
  obtain ⟨va, vc, rfl, hvc⟩ := hO5.len
  have hIP : IsPages w5 (.slice va d.pages.length vc) d.pages := hO5.is (by omega) fun p hp => by have := HP.out p hp; omega
  have b35 := below_trans b3 b5
  have b05 := below_trans b0 b35
  have g05 := block_keep g0 b35
  have g15 := block_keep g1 b35
  have hs5 := b35.size
  have hR5 := Lib.hid hO5
  clear y0 y1 y2 hO5 g0 g1
  have hg5 := heap_alloc_new w5 (.cells #[.slice va d.pages.length vc, .slice none 0 0, .bool false] 25)
  have bN5 := below_new w5 (.cells #[.slice va d.pages.length vc, .slice none 0 0, .bool false] 25)
  have hsz5 : w5.heap.size + 1 ≤ (w5.alloc (.cells #[.slice va d.pages.length vc, .slice none 0 0, .bool false] 25)).heap.size := by simp
  obtain ⟨y0, y1, y2, -, -, -⟩ := Box3.of (block_keep g05 bN5)
  go_wp2
  go_loopw [10] (fun i wr => ∃ (j : Nat) (wv : Value), j ≤ d.writes.length ∧ i = .int .i64 j ∧ wr.heap[w5.heap.size]? = some (.cells #[.slice va d.pages.length vc, wv, .bool false] 25 (0, 0)) ∧ OwnW wr (w5.heap.size + 1) wv (d.writes.take j) ∧ Below w5.heap.size w5 wr ∧ w5.heap.size + 1 ≤ wr.heap.size) (fun i _ => d.writes.length - (intOf i).toNat)
  case atStart => exact ⟨0, _, Nat.zero_le _, rfl, hg5, OwnW.nil _ _, bN5, hsz5⟩
  case round =>
    obtain ⟨j, wv, hj, rfl, hgr, hOr, hbr, hsr⟩ := hrel
    obtain ⟨wo, rfl⟩ : ∃ wo : World, wo = wr := ⟨_, rfl⟩
    clear y0 y1 y2
    obtain ⟨y0, y1, y2, -, -, -⟩ := Box3.of (block_keep g05 hbr)
    have b0o := below_trans b05 hbr
    obtain ⟨xa, xc, rfl, hxc⟩ := hOr.len
    obtain ⟨z0, z1, z2, zf0, zf1, zf2⟩ := Box3.of hgr
    have h5a : w.heap.size ≠ w5.heap.size := by omega
    have h5b : w.heap.size + 1 ≠ w5.heap.size := by omega
    have HS2 : ∀ W, Below (w5.heap.size + 1) wo W → W.cell? ⟨w5.heap.size, 0, none⟩ = some (.slice va d.pages.length vc) ∧ W.cell? ⟨w5.heap.size, 1, none⟩ = some (.slice xa (d.writes.take j).length xc) ∧ W.frozen? ⟨w5.heap.size, 1, none⟩ = false := fun W hW =>
      ⟨(hW.cell (p := ⟨w5.heap.size, 0, none⟩) (by simp)).trans z0, (hW.cell (p := ⟨w5.heap.size, 1, none⟩) (by simp)).trans z1, (hW.frozen (p := ⟨w5.heap.size, 1, none⟩) (by simp)).trans zf1⟩
    have HY : ∀ W, Below w5.heap.size wo W → W.cell? ⟨w.heap.size, 1, none⟩ = some (.slice wa d.writes.length wcp) := fun W hW => (hW.cell (p := ⟨w.heap.size, 1, none⟩) (by simp; omega)).trans y1
    have hTl : (d.writes.take j).length = j := by rw [List.length_take]; omega
    have HTL := Lib.hid hTl
    have hTb : (d.writes.take j).length ≤ 1000000000 := by omega
    by_cases hlt : j < d.writes.length
    · obtain ⟨b, off, da, dc, rfl, c0, c1, hB⟩ := hw.at_ (List.getElem?_eq_getElem hlt)
      have HM := Lib.hid (HW.out d.writes[j] (List.getElem_mem hlt))
      have HT := Lib.hid (List.take_succ_eq_append_getElem hlt)
      have HC0 : ∀ W, Below w.heap.size w W → W.cell? ⟨b, off + j * 2, none⟩ = some (.int .i64 d.writes[j].at_) := fun W hW => cell_keep hW c0
      have HC1 : ∀ W, Below w.heap.size w W → W.cell? ⟨b, off + j * 2 + 1, none⟩ = some (.slice da d.writes[j].data.length dc) := fun W hW => cell_keep hW c1
      have HB := fun W (hW : Below w.heap.size w W) => IsBytes.keep hB hW
      generalize d.writes[j] = x at *
      generalize d.writes.take j = T at *
      clear c0 c1 hTl
      have hI0 : (0 : Int) ≤ (j : Int) := by omega
      have hI1 : (j : Int) < (d.writes.length : Int) := by omega
      have hxl : x.data.length ≤ 100000 := by have := HM.out.2.2; omega
      have HALL : ∀ W, Below wo.heap.size wo W → W.cell? ⟨w5.heap.size, 1, none⟩ = some (.slice xa T.length xc) ∧ W.cell? ⟨w.heap.size, 1, none⟩ = some (.slice (some ⟨b, off, none⟩) d.writes.length wcp) ∧ W.cell? ⟨b, off + j * 2, none⟩ = some (.int .i64 x.at_) ∧ W.cell? ⟨b, off + j * 2 + 1, none⟩ = some (.slice da x.data.length dc) := fun W hW =>
        ⟨(HS2 W (hW.mono hsr)).2.1, HY W (hW.mono (by omega)), HC0 W (below_trans b0o hW), HC1 W (below_trans b0o hW)⟩
      have HALL2 : ∀ W, Below (w5.heap.size + 1) wo W → W.cell? ⟨w5.heap.size, 1, none⟩ = some (.slice xa T.length xc) ∧ W.cell? ⟨w.heap.size, 1, none⟩ = some (.slice (some ⟨b, off, none⟩) d.writes.length wcp) ∧ W.cell? ⟨b, off + j * 2, none⟩ = some (.int .i64 x.at_) ∧ W.cell? ⟨b, off + j * 2 + 1, none⟩ = some (.slice da x.data.length dc) := fun W hW =>
        ⟨(HS2 W hW).2.1, HY W (hW.mono (by omega)), HC0 W (b0o.trans (hW.mono (by omega))), HC1 W (b0o.trans (hW.mono (by omega)))⟩
      have hbse : w5.heap.size + 1 ≤ wo.heap.size := hsr
      go_wp2
      refine wp_region_noPanic ?_
      refine wp_region_late (fun w' => w'.cell? ⟨w5.heap.size, 1, none⟩ = some (.slice xa T.length xc) ∧ w'.cell? ⟨w.heap.size, 1, none⟩ = some (.slice (some ⟨b, off, none⟩) d.writes.length wcp) ∧ w'.cell? ⟨b, off + j * 2, none⟩ = some (.int .i64 x.at_) ∧ w'.cell? ⟨b, off + j * 2 + 1, none⟩ = some (.slice da x.data.length dc)) 19 (by kernel_rfl) (HALL _ (below_drew' (Below.refl _ _))) (fun hHeld => ?_)
      refine any_take (by kernel_rfl) (i := 0) (oi := _) (v := ?_) rfl rfl (by kernel_rfl) (by kernel_rfl) (by kernel_rfl) (fun _ _ _ h => h) (Or.inl ⟨by rfl, ?_⟩) hHeld ?_
      rotate_left
      · intro w' hSw; try dsimp only at hSw
        go_simp
        try with_reducible rfl
      try simp only [puts]
      refine any_take (by kernel_rfl) (i := 1) (oi := _) (v := ?_) rfl rfl (by kernel_rfl) (by kernel_rfl) (by kernel_rfl) (fun _ _ _ h => h) (Or.inl ⟨by rfl, ?_⟩) hHeld ?_
      rotate_left
      · intro w' hSw; try dsimp only at hSw
        go_simp
        try with_reducible rfl
      try simp only [puts]
      refine any_take (by kernel_rfl) (i := 2) (oi := _) (v := ?_) rfl rfl (by kernel_rfl) (by kernel_rfl) (by kernel_rfl) (fun _ _ _ h => h) (Or.inl ⟨by rfl, ?_⟩) hHeld ?_
      rotate_left
      · intro w' hSw; try dsimp only at hSw
        go_simp
        try with_reducible rfl
      try simp only [puts]
      refine any_take (by kernel_rfl) (i := 3) (oi := _) (v := ?_) rfl rfl (by kernel_rfl) (by kernel_rfl) (by kernel_rfl) (fun _ _ _ h => h) (Or.inl ⟨by rfl, ?_⟩) hHeld ?_
      rotate_left
      · intro w' hSw; try dsimp only at hSw
        go_simp
        try with_reducible rfl
      try simp only [puts]
      refine any_take (by kernel_rfl) (i := 4) (oi := _) (v := ?_) rfl rfl (by kernel_rfl) (by kernel_rfl) (by kernel_rfl) (fun _ _ _ h => h) (Or.inl ⟨by rfl, ?_⟩) hHeld ?_
      rotate_left
      · intro w' hSw; try dsimp only at hSw
        go_simp
        try with_reducible rfl
      try simp only [puts]
      refine any_take (by kernel_rfl) (i := 5) (oi := _) (v := ?_) rfl rfl (by kernel_rfl) (by kernel_rfl) (by kernel_rfl) (fun _ _ _ h => h) (Or.inl ⟨by rfl, ?_⟩) hHeld ?_
      rotate_left
      · intro w' hSw; try dsimp only at hSw
        go_simp
        try with_reducible rfl
      try simp only [puts]
      refine any_take (by kernel_rfl) (i := 6) (oi := _) (v := ?_) rfl rfl (by kernel_rfl) (by kernel_rfl) (by kernel_rfl) (fun _ _ _ h => h) (Or.inl ⟨by rfl, ?_⟩) hHeld ?_
      rotate_left
      · intro w' hSw; try dsimp only at hSw
        go_simp
        try with_reducible rfl
      try simp only [puts]
      refine any_take (by kernel_rfl) (i := 7) (oi := _) (v := ?_) rfl rfl (by kernel_rfl) (by kernel_rfl) (by kernel_rfl) (fun _ _ _ h => h) (Or.inl ⟨by rfl, ?_⟩) hHeld ?_
      rotate_left
      · intro w' hSw; try dsimp only at hSw
        go_simp
        try with_reducible rfl
      try simp only [puts]
      refine any_take (by kernel_rfl) (i := 8) (oi := _) (v := ?_) rfl rfl (by kernel_rfl) (by kernel_rfl) (by kernel_rfl) (fun _ _ _ h => h) (Or.inl ⟨by rfl, ?_⟩) hHeld ?_
      rotate_left
      · intro w' hSw; try dsimp only at hSw
        go_simp
        try with_reducible rfl
      try simp only [puts]
      refine any_take (by kernel_rfl) (i := 9) (oi := _) (v := ?_) rfl rfl (by kernel_rfl) (by kernel_rfl) (by kernel_rfl) (fun _ _ _ h => h) (Or.inl ⟨by rfl, ?_⟩) hHeld ?_
      rotate_left
      · intro w' hSw; try dsimp only at hSw
        go_simp
        try with_reducible rfl
      try simp only [puts]
      refine any_take (by kernel_rfl) (i := 10) (oi := _) (v := ?_) rfl rfl (by kernel_rfl) (by kernel_rfl) (by kernel_rfl) (fun _ _ _ h => h) (Or.inl ⟨by rfl, ?_⟩) hHeld ?_
      rotate_left
      · intro w' hSw; try dsimp only at hSw
        go_simp
        try with_reducible rfl
      try simp only [puts]
      refine any_take (by kernel_rfl) (i := 11) (oi := _) (v := ?_) rfl rfl (by kernel_rfl) (by kernel_rfl) (by kernel_rfl) (fun _ _ _ h => h) (Or.inl ⟨by rfl, ?_⟩) hHeld ?_
      rotate_left
      · intro w' hSw; try dsimp only at hSw
        go_simp
        try with_reducible rfl
      try simp only [puts]
      refine any_take (by kernel_rfl) (i := 12) (oi := _) (v := ?_) rfl rfl (by kernel_rfl) (by kernel_rfl) (by kernel_rfl) (fun _ _ _ h => h) (Or.inl ⟨by rfl, ?_⟩) hHeld ?_
      rotate_left
      · intro w' hSw; try dsimp only at hSw
        go_simp
        try with_reducible rfl
      try simp only [puts]
      refine any_take (by kernel_rfl) (i := 13) (oi := _) (v := ?_) rfl rfl (by kernel_rfl) (by kernel_rfl) (by kernel_rfl) (fun _ _ _ h => h) (Or.inl ⟨by rfl, ?_⟩) hHeld ?_
      rotate_left
      · intro w' hSw; try dsimp only at hSw
        go_simp
        try with_reducible rfl
      try simp only [puts]
      refine any_next (i := 14) (by kernel_rfl) rfl rfl (fun K hK => ?_)
      go_simp
      go_at_call 35
      refine rFull_ts (HB _ (below_trans b0o (below_drew' (Below.refl _ _)))) hxl ?_
      intro g c wF hF bF
      have hF : OwnB wF wo.heap.size (.slice (some ⟨g, 0, none⟩) (rfull x.data).length c) (rfull x.data) := hF
      have bF : Below wo.heap.size wo wF := below_undrew bF
      refine hK.out _ _ ?_ (fun hHeld => ?_)
      · exact HALL _ bF
      clear hK K
      try simp only [puts]
      refine any_take (by kernel_rfl) (i := 15) (oi := _) (v := ?_) rfl rfl (by kernel_rfl) (by kernel_rfl) (by kernel_rfl) (fun _ _ _ h => h) (Or.inl ⟨by rfl, ?_⟩) hHeld ?_
      rotate_left
      · intro w' hSw; try dsimp only at hSw
        go_simp
        try with_reducible rfl
      try simp only [puts]
      refine any_next (i := 16) (by kernel_rfl) rfl rfl (fun K hK => ?_)
      go_simp
      refine hK.out _ _ ?_ (fun hHeld => ?_)
      · exact HALL _ (below_alloc' bF)
      clear hK K
      try simp only [puts]
      refine any_next (i := 17) (by kernel_rfl) rfl rfl (fun K hK => ?_)
      refine step_pushW (wr := wo) (x := ⟨x.at_, rfull x.data⟩) (g1 := wF.heap.size) rfl (.tmp 34) (.tmp 49) (by rfl) (by rfl) (by rfl) hOr (below_alloc' bF) (OwnB.keep hF (below_new _ _)) hbse (heap_alloc_new wF _) hTb ?_
      intro g' cap' w6 hO6 b6
      refine hK.out _ _ ?_ (fun hHeld => ?_)
      · exact HALL2 _ b6
      clear hK K
      try simp only [puts]
      refine any_take (by kernel_rfl) (i := 18) (oi := _) (v := ?_) rfl rfl (by kernel_rfl) (by kernel_rfl) (by kernel_rfl) (fun _ _ _ h => h) (Or.inl ⟨by rfl, ?_⟩) hHeld ?_
      rotate_left
      · intro w' hSw; try dsimp only at hSw
        go_simp
        try with_reducible rfl
      try simp only [puts]
      refine any_late (i := 19) (by kernel_rfl) rfl rfl (fun K hK => ?_)
      go_simp
      refine hK.out _ _ ?_
      clear hK K
      try simp only [puts]
      refine any_done (by kernel_rfl) ?_ _
      refine NoPanic.normal ?_
      go_wp2
      go_roundw
      case rel =>
        have hg6 : w6.heap[w5.heap.size]? = some (.cells #[.slice va d.pages.length vc, .slice xa T.length xc, .bool false] 25 (0, 0)) := (b6.block _ (by omega)).trans hgr
        have e1 : (⟨x.at_, rfull x.data⟩ : Wt) = x := Wt.ext' rfl (rfull_self HM.out.2.2)
        rw [e1] at hO6
        refine ⟨j + 1, _, by omega, by go_num, box3_set1 hg6, ?_, (hbr.trans (b6.mono (by omega))).setCell (p := ⟨w5.heap.size, 1, none⟩) (by simp) _, by have := b6.size; simp [World.setCell]; omega⟩
        rw [HT.out]
        exact hO6.store (p := ⟨w5.heap.size, 1, none⟩) (by simp) _
      case measure => simp [intOf]; omega
    · have e : j = d.writes.length := by omega
      subst e
      rw [List.take_length] at hOr hgr HS2 hTb z1
      have HALL : ∀ W, Below wo.heap.size wo W → W.cell? ⟨w5.heap.size, 1, none⟩ = some (.slice xa d.writes.length xc) := fun W hW => (HS2 W (hW.mono hsr)).2.1
      have HALL2 : ∀ W, Below (w5.heap.size + 1) wo W → W.cell? ⟨w5.heap.size, 1, none⟩ = some (.slice xa d.writes.length xc) := fun W hW => (HS2 W hW).2.1
      have HF2 : ∀ W, Below (w5.heap.size + 1) wo W → W.frozen? ⟨w5.heap.size, 1, none⟩ = false := fun W hW => (HS2 W hW).2.2
      have HB := fun W (hW : Below w.heap.size w W) => IsBytes.keep hb0 hW
      have hbse : w5.heap.size + 1 ≤ wo.heap.size := hsr
      clear hTl HS2
      go_wp2
      refine wp_region_noPanic ?_
      refine wp_region_late (fun w' => w'.cell? ⟨w5.heap.size, 1, none⟩ = some (.slice xa d.writes.length xc)) 9 (by kernel_rfl) (HALL _ (below_drew' (Below.refl _ _))) (fun hHeld => ?_)
      refine any_take (by kernel_rfl) (i := 0) (oi := _) (v := ?_) rfl rfl (by kernel_rfl) (by kernel_rfl) (by kernel_rfl) (fun _ _ _ h => h) (Or.inl ⟨by rfl, ?_⟩) hHeld ?_
      rotate_left
      · intro w' hSw; try dsimp only at hSw
        go_simp
        try with_reducible rfl
      try simp only [puts]
      refine any_take (by kernel_rfl) (i := 1) (oi := _) (v := ?_) rfl rfl (by kernel_rfl) (by kernel_rfl) (by kernel_rfl) (fun _ _ _ h => h) (Or.inl ⟨by rfl, ?_⟩) hHeld ?_
      rotate_left
      · intro w' hSw; try dsimp only at hSw
        go_simp
        try with_reducible rfl
      try simp only [puts]
      refine any_take (by kernel_rfl) (i := 2) (oi := _) (v := ?_) rfl rfl (by kernel_rfl) (by kernel_rfl) (by kernel_rfl) (fun _ _ _ h => h) (Or.inl ⟨by rfl, ?_⟩) hHeld ?_
      rotate_left
      · intro w' hSw; try dsimp only at hSw
        go_simp
        try with_reducible rfl
      try simp only [puts]
      refine any_take (by kernel_rfl) (i := 3) (oi := _) (v := ?_) rfl rfl (by kernel_rfl) (by kernel_rfl) (by kernel_rfl) (fun _ _ _ h => h) (Or.inl ⟨by rfl, ?_⟩) hHeld ?_
      rotate_left
      · intro w' hSw; try dsimp only at hSw
        go_simp
        try with_reducible rfl
      try simp only [puts]
      refine any_next (i := 4) (by kernel_rfl) rfl rfl (fun K hK => ?_)
      go_simp
      go_at_call 35
      refine rFull_ts (HB _ (below_trans b0o (below_drew' (Below.refl _ _)))) (by omega) ?_
      intro g c wF hF bF
      have hF : OwnB wF wo.heap.size (.slice (some ⟨g, 0, none⟩) (rfull l).length c) (rfull l) := hF
      have bF : Below wo.heap.size wo wF := below_undrew bF
      refine hK.out _ _ ?_ (fun hHeld => ?_)
      · exact HALL _ bF
      clear hK K
      try simp only [puts]
      refine any_take (by kernel_rfl) (i := 5) (oi := _) (v := ?_) rfl rfl (by kernel_rfl) (by kernel_rfl) (by kernel_rfl) (fun _ _ _ h => h) (Or.inl ⟨by rfl, ?_⟩) hHeld ?_
      rotate_left
      · intro w' hSw; try dsimp only at hSw
        go_simp
        try with_reducible rfl
      try simp only [puts]
      refine any_next (i := 6) (by kernel_rfl) rfl rfl (fun K hK => ?_)
      go_simp
      refine hK.out _ _ ?_ (fun hHeld => ?_)
      · exact HALL _ (below_alloc' bF)
      clear hK K
      try simp only [puts]
      refine any_next (i := 7) (by kernel_rfl) rfl rfl (fun K hK => ?_)
      refine step_pushW (wr := wo) (x := ⟨k, rfull l⟩) (g1 := wF.heap.size) rfl (.tmp 53) (.tmp 58) (by rfl) (by rfl) (by rfl) hOr (below_alloc' bF) (OwnB.keep hF (below_new _ _)) hbse (heap_alloc_new wF _) hTb ?_
      intro g' cap' w6 hO6 b6
      have f6 := HF2 _ b6
      refine hK.out _ _ ?_ (fun hHeld => ?_)
      · exact HALL2 _ b6
      clear hK K
      try simp only [puts]
      refine any_take (by kernel_rfl) (i := 8) (oi := _) (v := ?_) rfl rfl (by kernel_rfl) (by kernel_rfl) (by kernel_rfl) (fun _ _ _ h => h) (Or.inl ⟨by rfl, ?_⟩) hHeld ?_
      rotate_left
      · intro w' hSw; try dsimp only at hSw
        go_simp
        try with_reducible rfl
      try simp only [puts]
      refine any_late (i := 9) (by kernel_rfl) rfl rfl (fun K hK => ?_)
      go_simp
      refine hK.out _ _ ?_
      clear hK K
      try simp only [puts]
      refine any_done (by kernel_rfl) ?_ _
      refine NoPanic.normal ?_
      have hg6 : w6.heap[w5.heap.size]? = some (.cells #[.slice va d.pages.length vc, .slice xa d.writes.length xc, .bool false] 25 (0, 0)) := (b6.block _ (by omega)).trans hgr
      have hg6' := box3_set1 (x := .slice (some ⟨g', 0, none⟩) (d.writes.length + 1) cap') hg6
      have bb6 : Below w5.heap.size w5 (w6.setCell ⟨w5.heap.size, 1, none⟩ (.slice (some ⟨g', 0, none⟩) (d.writes.length + 1) cap')) := (hbr.trans (b6.mono (by omega))).setCell (p := ⟨w5.heap.size, 1, none⟩) (by simp) _
      obtain ⟨y0, y1, y2, -, -, -⟩ := Box3.of hg6'
      obtain ⟨u0, u1, u2, uf0, uf1, uf2⟩ := Box3.of (block_keep g15 bb6)
      go_wp2
      refine bodyPost_ret (v := .tuple #[.agg #[.slice va d.pages.length vc, .slice (some ⟨g', 0, none⟩) (d.writes.length + 1) cap', .bool false], .int .i64 0]) (by simp [results, Try.results20, go_sem, u0, u1, u2]) rfl ?_
      have bF := (((below_trans b05 bb6).setCell (p := ⟨w.heap.size + 1, 0, none⟩) (by simp) (.slice va d.pages.length vc)).setCell (p := ⟨w.heap.size + 1, 1, none⟩) (by simp) (.slice (some ⟨g', 0, none⟩) (d.writes.length + 1) cap')).setCell (p := ⟨w.heap.size + 1, 2, none⟩) (by simp) (.bool false)
      have pF := (((hO6.store (p := ⟨w5.heap.size, 1, none⟩) (by simp) (.slice (some ⟨g', 0, none⟩) (d.writes.length + 1) cap')).store (p := ⟨w.heap.size + 1, 0, none⟩) (by simp; omega) (.slice va d.pages.length vc)).store (p := ⟨w.heap.size + 1, 1, none⟩) (by simp; omega) (.slice (some ⟨g', 0, none⟩) (d.writes.length + 1) cap')).store (p := ⟨w.heap.size + 1, 2, none⟩) (by simp; omega) (.bool false)
      have hs3 := b3.size
      have rF := ((((hR5.out.keep bb6)).store (p := ⟨w.heap.size + 1, 0, none⟩) (by simp; omega) (.slice va d.pages.length vc)).store (p := ⟨w.heap.size + 1, 1, none⟩) (by simp; omega) (.slice (some ⟨g', 0, none⟩) (d.writes.length + 1) cap')).store (p := ⟨w.heap.size + 1, 2, none⟩) (by simp; omega) (.bool false)
      refine ⟨_, by rw [H.out], ?_, bF⟩
      rw [H.out]
      refine off_rw rF pF (fun β hβ => by have := HBB.out β hβ; omega) (fun β hβ => by have := HBB.out β hβ; omega) (by omega) (fun p hp => by have := HP.out p hp; omega) (by simp; omega) fun x hx => ?_
      rcases List.mem_append.1 hx with hx | hx
      · have := (HW.out x hx).2.2; omega
      · obtain rfl := List.mem_singleton.1 hx
        simp [rfull, zeros]; omega
end Go.Proofs.Ytcembocnkndlhaa
/- The reference's walk: Frame. -/
namespace Go.Proofs.Ytcembocnkndlhaa
open Go.RowKit
/-- The bytes of a frame, one after the other. -/
def frameB (r : List UInt8) : List UInt8 := firstPage r ++ (r.drop 55 ++ zeros (64 * (pagesN r.length - 1) - (r.length - 55)))
theorem frameB_flat (r : List UInt8) : frameB r = (frame r).flatten := by
  unfold frameB frame restPages
  rw [List.flatten_cons, chunks_flat _ _ (by rw [List.length_drop]; unfold pagesN; omega), List.length_drop]
theorem length_frameB (r : List UInt8) : (frameB r).length = 64 * pagesN r.length := by
  unfold frameB
  rw [List.length_append, length_first, List.length_append, List.length_drop]
  simp only [zeros, List.length_replicate]
  unfold pagesN; omega
theorem flatten_part : ∀ (L : List (List UInt8)), (∀ p ∈ L, p.length = 64) → ∀ (i : Nat) (p : List UInt8), L[i]? = some p → (L.flatten.drop (64 * i)).take 64 = p
  | [], _, i, p, h => by simp at h
  | x :: L, hw, 0, p, h => by
    obtain rfl : x = p := by simpa using h
    have := hw x (by simp)
    rw [List.flatten_cons, Nat.mul_zero, List.drop_zero, ← this, List.take_left' rfl]
  | x :: L, hw, i + 1, p, h => by
    have hx := hw x (by simp)
    rw [List.flatten_cons, show 64 * (i + 1) = x.length + 64 * i by omega, List.drop_append]
    rw [show (x.drop (x.length + 64 * i)) = [] from List.drop_of_length_le (by omega), List.nil_append, show x.length + 64 * i - x.length = 64 * i by omega]
    exact flatten_part L (fun q hq => hw q (by simp [hq])) i p (by simpa using h)
theorem frameB_page (r : List UInt8) {i : Nat} {p : List UInt8} (h : (frame r)[i]? = some p) : ((frameB r).drop (64 * i)).take 64 = p := by
  rw [frameB_flat]; exact flatten_part _ (frame_wide r) i p h
/-- How many bytes are out when i bytes of the record are. -/
def posF (i : Nat) : Nat := if i ≤ 55 then 8 + i else 9 + i
theorem frameB_head (r : List UInt8) : (frameB r).take 8 = fourN r.length ++ fourN (sumN r) := by
  unfold frameB firstPage
  rw [List.append_assoc, ← List.append_assoc (fourN r.length), ← List.append_assoc, ← List.append_assoc]
  simp only [List.append_assoc]
  rw [← List.append_assoc, List.take_left' (by simp [fourN])]
theorem frameB_low (r : List UInt8) {i : Nat} (h : i < 55) (hi : i < r.length) : (frameB r)[8 + i]? = r[i]? := by
  unfold frameB firstPage
  rw [List.getElem?_append_left (by simp [fourN, zeros]; omega)]
  rw [← List.append_assoc, List.getElem?_append_right (by simp [fourN])]
  rw [List.getElem?_append_left (by simp [fourN]; omega)]
  rw [List.getElem?_take_of_lt (by simp [fourN]; omega)]
  congr 1
  simp [fourN]
theorem frameB_mark (r : List UInt8) : (frameB r)[63]? = some 1 := by
  have := first_mark r
  unfold frameB
  rw [List.getElem?_append_left (by rw [length_first]; omega)]
  rw [List.getD_eq_getElem?_getD, List.getElem?_eq_getElem (by rw [length_first]; omega)] at this
  rw [List.getElem?_eq_getElem (by rw [length_first]; omega)]
  exact congrArg some this
theorem frameB_high (r : List UInt8) {i : Nat} (h : 55 ≤ i) (hi : i < r.length) : (frameB r)[9 + i]? = r[i]? := by
  unfold frameB
  rw [List.getElem?_append_right (by rw [length_first]; omega), length_first, List.getElem?_append_left (by rw [List.length_drop]; omega), List.getElem?_drop]
  congr 1
  omega
theorem frameB_pad (r : List UInt8) {m : Nat} (h : posF r.length ≤ m) (hm : m ≠ 63) (hi : m < 64 * pagesN r.length) : (frameB r)[m]? = some 0 := by
  unfold posF at h
  unfold frameB
  by_cases h64 : m < 64
  · have hl : r.length < 55 := by split at h <;> omega
    rw [if_pos (by omega)] at h
    rw [List.getElem?_append_left (by rw [length_first]; omega)]
    unfold firstPage
    rw [← List.append_assoc, List.getElem?_append_right (by simp [fourN]; omega)]
    rw [List.getElem?_append_right (by simp [fourN]; omega)]
    rw [List.getElem?_append_left (by simp [fourN, zeros]; omega)]
    unfold zeros
    rw [List.getElem?_replicate, if_pos (by simp [fourN]; omega)]
  · rw [List.getElem?_append_right (by rw [length_first]; omega), length_first, List.getElem?_append_right (by rw [List.length_drop]; split at h <;> omega)]
    unfold zeros
    rw [List.getElem?_replicate, if_pos (by rw [List.length_drop]; split at h <;> omega)]
theorem take_more {l : List UInt8} {m : Nat} {x : UInt8} (h : l[m]? = some x) : l.take (m + 1) = l.take m ++ [x] := by
  rw [List.take_add_one, h]; rfl
theorem own_push {w w1 w2 : World} {base n : Nat} {v v' : Value} {l : List UInt8} {x : UInt8} (h : OwnB w base v l) (hb : Below w.heap.size w w1) (hown : w2.ownsRow base 5 1 v' n (bytesV l ++ [.int .u8 x.toNat])) (hn : n = l.length + 1) (hg : w1.grownBy w2 v.ownBlock) (hbase : base ≤ w1.heap.size) : OwnB w2 base v' (l ++ [x]) ∧ Below base w w2 := by
  subst hn
  refine ⟨⟨?_, ?_⟩, ?_⟩
  · rw [bytesV_append, List.length_append]; exact hown
  · rintro rfl
    rcases hown.2 with ⟨_, h0⟩ | ⟨g, cap, cur, e, _⟩
    · omega
    · cases e
  · refine (hb.mono ?_).grown hg hbase (own_from h.1)
    rcases h.1.2 with ⟨rfl, _⟩ | ⟨g, cap, cur, _, hbg, hh, _⟩
    · exact absurd rfl h.2
    · have := block_lt hh; omega
set_option maxHeartbeats 8000000 in
set_option maxRecDepth 100000 in
theorem rFrame_any (v : Value) (r : List UInt8) (w : World) (h : IsBytes w v r) (hl : r.length ≤ 100000) : Calls Try.prog 73 #[v] w fun e w' => ∃ u, e = .returned u ∧ OwnB w' w.heap.size u (frameB r) ∧ Below w.heap.size w w' := by
  obtain ⟨i0, hi, hz0, hz1, hz2⟩ := info_parts info5
  have h0 := h
  obtain ⟨a, c, rfl, -, hm⟩ := h
  have hw32 : IntKind.u32.wrap (r.length : Int) = (r.length : Int) := by simp only [wrap_u32n]; omega
  have h32 : r.length < two32 := by unfold two32; omega
  obtain ⟨sm, hsm⟩ : ∃ sm, sumN r = sm := ⟨_, rfl⟩
  have hsm32 : sm < two32 := by rw [← hsm]; exact sumN_lt _
  have HSM := Lib.hid hsm
  have HLF := Lib.hid (length_frameB r)
  have HHD := Lib.hid (frameB_head r)
  rw [hsm] at HHD
  clear hsm
  go_enter Try.func73, Try.ntmps73
  go_wp2_with fail
  (with_reducible refine (rfour_any r.length _ h32).mono ?_)
  rintro e w1 ⟨rfl, hw1⟩
  have o1 := fresh_own w (fourN r.length) (by show 4 ≤ maxLen; decide)
  have b1 := below_new w (.cells (bytesV (fourN r.length)).toArray 5)
  have hs1 : w.heap.size < w1.heap.size := by rw [hw1]; simp
  rw [← hw1] at o1 b1
  clear hw1
  go_wp2_with fail
  (with_reducible refine (rSum_any _ r _ (h0.keep b1)).mono ?_)
  rintro e w2 ⟨rfl, rfl⟩
  rw [HSM.out]
  go_wp2_with fail
  (with_reducible refine (rfour_any sm _ hsm32).mono ?_)
  rintro e w3 ⟨rfl, hw3⟩
  have o3 := fresh_own w1 (fourN sm) (by show 4 ≤ maxLen; decide)
  have b3 := below_new w1 (.cells (bytesV (fourN sm)).toArray 5)
  have hs3 : w.heap.size ≤ w3.heap.size := by rw [hw3]; simp; omega
  rw [← hw3] at o3 b3
  clear hw3
  have o13 : w3.ownsRow w.heap.size 5 1 (.slice (some ⟨w.heap.size, 0, none⟩) 4 4) 4 (bytesV (fourN r.length)) := own_keep o1 b3
  have hx3 : IsRows 1 encB w3 (.slice (some ⟨w1.heap.size, 0, none⟩) 4 4) (fourN sm) := IsRows.of_owns (base := w1.heap.size) (e := 5) (by rw [flat_bytes]; exact o3) (fun _ _ => rfl) (by show 4 ≤ 9223372036854775807; decide)
  have hone := bytes_one (fourN sm)
  go_upto_region 2 with (at_builtin; refine wpList_append_rows rfl encB _ _ 26 rfl w.heap.size 5 i0 (.int .u8 0) 1 1 Try.underlying26 hi hz0 hz1 hz2 rfl (by decide) _ _ _ rfl o13 _ (fourN sm) rfl hx3 (fun _ _ => rfl) hone (by show 4 + 4 ≤ maxLen; decide) (by show (4 + 4) * 1 ≤ 140737488355328; decide) hs3 ?_; intro v6 w6 own6 grow6 at6)
  have b06 : Below w.heap.size w w6 := (below_trans b1 b3).grown grow6 hs3 (own_from o13)
  have hO6 : OwnB w6 w.heap.size v6 ((frameB r).take 8) := by
    rw [HHD.out]
    refine ⟨by rw [bytesV_append, ← flat_bytes (fourN sm)]; exact own6, ?_⟩
    rintro rfl
    rcases own6.2 with ⟨_, h0⟩ | ⟨g, cap, cur, e, _⟩
    · have : 4 + (fourN sm).length = 0 := h0
      simp [fourN] at this
    · cases e
  clear o1 o3 o13 hx3 hone own6 grow6 at6 b1 b3 hs1 hs3
  go_wp2
  go_loopw [3, 4] (fun ov iv wr => ∃ i : Nat, i ≤ r.length ∧ iv = .int .i64 i ∧ OwnB wr w.heap.size ov ((frameB r).take (posF i)) ∧ Below w.heap.size w wr) (fun _ iv _ => r.length - (intOf iv).toNat)
  case atStart => exact ⟨0, Nat.zero_le _, rfl, hO6, b06⟩
  case round =>
    clear hO6 b06
    obtain ⟨i, hir, rfl, hO, hB⟩ := hrel
    obtain ⟨wo, rfl⟩ : ∃ wo : World, wo = wr := ⟨_, rfl⟩
    have hpos : posF i ≤ 64 * pagesN r.length := by unfold posF pagesN; split <;> omega
    have hTL : ((frameB r).take (posF i)).length = posF i := by rw [List.length_take, HLF.out]; omega
    have hp5 : posF i ≤ 1000000 := by unfold posF; split <;> omega
    have hsz : ∀ o : Obj, w.heap.size ≤ (wo.alloc o).heap.size := fun o => by have := hB.size; simp; omega
    by_cases hlt : i < r.length
    · have hd : decide (i < r.length) = true := decide_eq_true hlt
      obtain ⟨b, off, rfl, hcw⟩ := h0.at_ (List.getElem?_eq_getElem hlt)
      have hc := cell_keep hB hcw
      have hgi : r[i]? = some r[i] := List.getElem?_eq_getElem hlt
      by_cases h55 : i = 55
      · subst h55
        have hpS : posF (55 + 1) = 65 := rfl
        have hn64 : (frameB r)[64]? = some r[55] := by rw [show 64 = 9 + 55 from rfl, frameB_high r (by omega) hlt]; exact hgi
        have HN1 := Lib.hid (show (frameB r).take (63 + 1) = (frameB r).take 63 ++ [1] from take_more (frameB_mark r))
        have HN2 := Lib.hid (show (frameB r).take (posF (55 + 1)) = (frameB r).take (63 + 1) ++ [r[55]] from take_more hn64)
        rw [show posF 55 = 63 from rfl] at hO hTL
        rw [HN1.out] at HN2
        have hq : ((((frameB r).take 63).length : Int) == 63) = true := by rw [hTL]; rfl
        generalize r[55] = x at *
        generalize (frameB r).take 63 = M at *
        have HMX : M.length + 1 ≤ maxLen := by unfold maxLen; omega
        have HMY : (M.length + 1) * 1 ≤ 140737488355328 := by omega
        obtain ⟨rg, rcap, rcur, rfl, -, -, -, -, -, -⟩ := id hO.form
        have hTLe : M.length = 63 := hTL
        have HTL := Lib.hid hTL
        have hkI : (55 : Int) < (r.length : Int) := by omega
        clear hn64 hpS hTL hgi
        go_upto_region 7 with (at_builtin; refine wpList_append_own _ rfl _ _ 26 rfl w.heap.size 5 i0 (.int .u8 0) 1 1 Try.underlying26 hi hz0 hz1 hz2 rfl (by decide) _ _ _ rfl (hO.1.alloc _) ⟨wo.heap.size, 0, none⟩ 1 1 [.int .u8 1] rfl rfl (cell_one' _ _ _) (by intro u hu; obtain rfl := List.mem_singleton.1 hu; rfl) HMX HMY (hsz _) ?_; intro v2 w2 hown2 hgrow2 hne2; obtain ⟨hO2, hB2⟩ := own_push (x := 1) hO (below_new wo _) hown2 rfl hgrow2 (hsz _))
        have hML : (M ++ [1]).length = M.length + 1 := by simp
        have hO3 := hO2
        obtain ⟨rg3, rcap3, rcur3, rfl, -, -, -, -, -, -⟩ := id hO3.form
        obtain ⟨M2, hM2⟩ : ∃ M2, M2 = M ++ [1] := ⟨_, rfl⟩
        rw [← hM2] at hO3 hML HN2
        rw [← hM2] at hO2
        rw [← hM2]
        clear hM2
        have HMX2 : M2.length + 1 ≤ maxLen := by unfold maxLen; omega
        have HMY2 : (M2.length + 1) * 1 ≤ 140737488355328 := by omega
        have hsz2 : ∀ o : Obj, w.heap.size ≤ (w2.alloc o).heap.size := fun o => by have := hB.size; have := hB2.size; have := hgrow2.size; simp at *; omega
        have hc2 := cell_keep (hB.trans hB2) hcw
        have HTL2 := Lib.hid hTLe
        clear hTLe hML
        go_wp2_with (at_builtin; refine wpList_append_own _ rfl _ _ 26 rfl w.heap.size 5 i0 (.int .u8 0) 1 1 Try.underlying26 hi hz0 hz1 hz2 rfl (by decide) _ _ _ rfl (hO3.1.alloc _) ⟨w2.heap.size, 0, none⟩ 1 1 [.int .u8 x.toNat] rfl rfl (cell_one' _ _ _) (by intro u hu; obtain rfl := List.mem_singleton.1 hu; rfl) HMX2 HMY2 (hsz2 _) ?_; intro v4 w4 hown4 hgrow4 hne4; obtain ⟨hO4, hB4⟩ := own_push hO3 (below_new w2 _) hown4 rfl hgrow4 (hsz2 _))
        go_roundw
        case rel => exact ⟨55 + 1, by omega, by go_num, by rw [HN2.out]; exact hO4, hB.trans (hB2.trans hB4)⟩
        case measure => simp [intOf]; omega
      · have hnx : (frameB r)[posF i]? = some r[i] := by
          unfold posF
          split
          · rw [frameB_low r (by omega) hlt]; exact hgi
          · rw [frameB_high r (by omega) hlt]; exact hgi
        have hpS : posF (i + 1) = posF i + 1 := by unfold posF; split <;> split <;> omega
        have HNX := Lib.hid (show (frameB r).take (posF (i + 1)) = (frameB r).take (posF i) ++ [r[i]] by rw [hpS]; exact take_more hnx)
        have hq : ((((frameB r).take (posF i)).length : Int) == 63) = false := by rw [beq_eq_false_iff_ne, hTL]; unfold posF; split <;> omega
        generalize r[i] = x at *
        generalize (frameB r).take (posF i) = M at *
        have HMX : M.length + 1 ≤ maxLen := by unfold maxLen; omega
        have HMY : (M.length + 1) * 1 ≤ 140737488355328 := by omega
        obtain ⟨rg, rcap, rcur, rfl, -, -, -, -, -, -⟩ := id hO.form
        have HTL := Lib.hid hTL
        have hkI : (i : Int) < (r.length : Int) := by omega
        have hk0 : (0 : Int) ≤ (i : Int) := by omega
        clear hnx hpS hTL hgi
        go_wp2_with (at_builtin; refine wpList_append_own _ rfl _ _ 26 rfl w.heap.size 5 i0 (.int .u8 0) 1 1 Try.underlying26 hi hz0 hz1 hz2 rfl (by decide) _ _ _ rfl (hO.1.alloc _) ⟨wo.heap.size, 0, none⟩ 1 1 [.int .u8 x.toNat] rfl rfl (cell_one' _ _ _) (by intro u hu; obtain rfl := List.mem_singleton.1 hu; rfl) HMX HMY (hsz _) ?_; intro v2 w2 hown2 hgrow2 hne2; obtain ⟨hO2, hB2⟩ := own_push hO (below_new wo _) hown2 rfl hgrow2 (hsz _))
        go_roundw
        case rel => exact ⟨i + 1, by omega, by go_num, by rw [HNX.out]; exact hO2, hB.trans hB2⟩
        case measure => simp [intOf]; omega
    · have e : i = r.length := by omega
      subst e
      have hd : decide (r.length < r.length) = false := decide_eq_false hlt
      obtain ⟨q, hq0⟩ : ∃ q, posF r.length = q := ⟨_, rfl⟩
      have HQ := Lib.hid hq0
      rw [hq0] at hO hpos
      clear hTL hp5 hsz
      go_wp2
      go_loopg [3] (64 * pagesN r.length - q) (fun gk vo wr => ∃ m : Nat, m + gk = 64 * pagesN r.length ∧ q ≤ m ∧ OwnB wr w.heap.size vo ((frameB r).take m) ∧ Below w.heap.size w wr)
      case atStart => exact ⟨q, by omega, Nat.le_refl _, hO, hB⟩
      case round =>
        clear hO hB
        obtain ⟨m, hmg, hqm, hO, hB⟩ := hrel
        obtain ⟨wo, rfl⟩ : ∃ wo : World, wo = wr := ⟨_, rfl⟩
        have hTL : ((frameB r).take m).length = m := by rw [List.length_take, HLF.out]; omega
        have hpl : pagesN r.length ≤ 100000 := by unfold pagesN; omega
        have hsz : ∀ o : Obj, w.heap.size ≤ (wo.alloc o).heap.size := fun o => by have := hB.size; simp; omega
        obtain ⟨p, hp⟩ : ∃ p, pagesN r.length = p := ⟨_, rfl⟩
        have HP := Lib.hid hp
        rw [hp] at hmg hpl hpos
        clear hp
        by_cases hlt : m < 64 * p
        · by_cases h63 : m = 63
          · subst h63
            have HN1 := Lib.hid (show (frameB r).take (63 + 1) = (frameB r).take 63 ++ [1] from take_more (frameB_mark r))
            have hq : ((((frameB r).take 63).length : Int) == 63) = true := by rw [hTL]; rfl
            generalize (frameB r).take 63 = M at *
            have HMX : M.length + 1 ≤ maxLen := by unfold maxLen; omega
            have HMY : (M.length + 1) * 1 ≤ 140737488355328 := by omega
            have hdd : decide ((M.length : Int) < 64 * (p : Int)) = true := decide_eq_true (by omega)
            obtain ⟨rg, rcap, rcur, rfl, -, -, -, -, -, -⟩ := id hO.form
            have HTL := Lib.hid hTL
            clear hTL
            go_wp2_with fail
            (with_reducible refine (rPages_any _ r _ (h0.keep hB) (by omega)).mono ?_)
            rintro e w9 ⟨rfl, rfl⟩
            rw [HP.out]
            go_wp2_with (at_builtin; refine wpList_append_own _ rfl _ _ 26 rfl w.heap.size 5 i0 (.int .u8 0) 1 1 Try.underlying26 hi hz0 hz1 hz2 rfl (by decide) _ _ _ rfl (hO.1.alloc _) ⟨wo.heap.size, 0, none⟩ 1 1 [.int .u8 1] rfl rfl (cell_one' _ _ _) (by intro u hu; obtain rfl := List.mem_singleton.1 hu; rfl) HMX HMY (hsz _) ?_; intro v2 w2 hown2 hgrow2 hne2; obtain ⟨hO2, hB2⟩ := own_push (x := 1) hO (below_new wo _) hown2 rfl hgrow2 (hsz _))
            go_roundg (gk - 1)
            case measure => omega
            case rel => exact ⟨63 + 1, by have := HP.out; omega, by omega, by rw [HN1.out]; exact hO2, hB.trans hB2⟩
          · have hpd : (frameB r)[m]? = some 0 := frameB_pad r (by rw [HQ.out]; exact hqm) h63 (by rw [HP.out]; exact hlt)
            have HN1 := Lib.hid (show (frameB r).take (m + 1) = (frameB r).take m ++ [0] from take_more hpd)
            have hq : ((((frameB r).take m).length : Int) == 63) = false := by rw [beq_eq_false_iff_ne, hTL]; omega
            generalize (frameB r).take m = M at *
            have HMX : M.length + 1 ≤ maxLen := by unfold maxLen; omega
            have HMY : (M.length + 1) * 1 ≤ 140737488355328 := by omega
            have hdd : decide ((M.length : Int) < 64 * (p : Int)) = true := decide_eq_true (by omega)
            obtain ⟨rg, rcap, rcur, rfl, -, -, -, -, -, -⟩ := id hO.form
            have HTL := Lib.hid hTL
            clear hTL hpd
            go_wp2_with fail
            (with_reducible refine (rPages_any _ r _ (h0.keep hB) (by omega)).mono ?_)
            rintro e w9 ⟨rfl, rfl⟩
            rw [HP.out]
            go_wp2_with (at_builtin; refine wpList_append_own _ rfl _ _ 26 rfl w.heap.size 5 i0 (.int .u8 0) 1 1 Try.underlying26 hi hz0 hz1 hz2 rfl (by decide) _ _ _ rfl (hO.1.alloc _) ⟨wo.heap.size, 0, none⟩ 1 1 [.int .u8 0] rfl rfl (cell_one' _ _ _) (by intro u hu; obtain rfl := List.mem_singleton.1 hu; rfl) HMX HMY (hsz _) ?_; intro v2 w2 hown2 hgrow2 hne2; obtain ⟨hO2, hB2⟩ := own_push (x := 0) hO (below_new wo _) hown2 rfl hgrow2 (hsz _))
            go_roundg (gk - 1)
            case measure => omega
            case rel => exact ⟨m + 1, by have := HP.out; omega, by omega, by rw [HN1.out]; exact hO2, hB.trans hB2⟩
        · have em : m = 64 * p := by omega
          have HF := Lib.hid (show (frameB r).take m = frameB r by rw [List.take_of_length_le (by rw [HLF.out, HP.out]; omega)])
          rw [HF.out] at hO hTL
          obtain ⟨M, hM⟩ : ∃ M, frameB r = M := ⟨_, rfl⟩
          have HM := Lib.hid hM
          rw [hM] at hO hTL
          clear hM
          have hdd : decide ((M.length : Int) < 64 * (p : Int)) = false := decide_eq_false (by omega)
          obtain ⟨rg, rcap, rcur, rfl, -, -, -, -, -, -⟩ := id hO.form
          clear HF hTL
          go_wp2_with fail
          (with_reducible refine (rPages_any _ r _ (h0.keep hB) (by omega)).mono ?_)
          rintro e w9 ⟨rfl, rfl⟩
          rw [HP.out]
          go_wp2
          go_ret
          refine ⟨_, rfl, ?_, hB⟩
          rw [HM.out]
          exact hO
end Go.Proofs.Ytcembocnkndlhaa
/- A region that draws its order, with a late store: what is assumed of the world holds until the store is done. -/
namespace Go.Proofs.Ytcembocnkndlhaa
/-- None of the late operations is done. -/
def freshB (late : List Nat) (done : Array Bool) : Bool := late.all fun t => !(done.getD t false)
theorem fresh_set {late : List Nat} {done : Array Bool} {i : Nat} (h : freshB late done = true) (hi : late.contains i = false) : freshB late (done.setIfInBounds i true) = true := by
  unfold freshB at h ⊢
  rw [List.all_eq_true] at h ⊢
  intro t ht
  have h1 := h t ht
  have hne : i ≠ t := fun e => by subst e; simp at hi; exact hi ht
  rw [Array.getD_eq_getD_getElem?] at h1 ⊢
  rw [Array.getElem?_setIfInBounds_ne hne]
  exact h1
theorem fresh_of {late : List Nat} {done : Array Bool} {i : Nat} (h : freshB late (done.setIfInBounds i true) = true) (hi : late.contains i = false) : freshB late done = true := by
  unfold freshB at h ⊢
  rw [List.all_eq_true] at h ⊢
  intro t ht
  have h1 := h t ht
  have hne : i ≠ t := fun e => by subst e; simp at hi; exact hi ht
  rw [Array.getD_eq_getD_getElem?] at h1 ⊢
  rw [Array.getElem?_setIfInBounds_ne hne] at h1
  exact h1
theorem stale {late : List Nat} {done : Array Bool} {p : Prop} (h : freshB late done = false) : freshB late done = true → p := fun k => by rw [h] at k; cases k
section
variable {P : Program} {ops : Array Oper} {Q : Exit → Act → World → Prop} {md : Region.Mode} {S : World → Prop} {late : List Nat}
def AnyL (P : Program) (md : Region.Mode) (ops : Array Oper) (Q : Exit → Act → World → Prop) (S : World → Prop) (late : List Nat) : Nat → Array Bool → Act → World → Prop
  | 0, done, a, w => Region.ready md ops done = [] ∧ Q .normal a w
  | f + 1, done, a, w => (Region.ready md ops done = [] → Q .normal a w) ∧ ∀ i ∈ Region.ready md ops done, wpOp P ops Q i (fun a' w' => (freshB late (done.setIfInBounds i true) = true → S w') ∧ AnyL P md ops Q S late f (done.setIfInBounds i true) a' w') a w
theorem anyL_of : ∀ (f : Nat) (done : Array Bool) (a : Act) (w : World), AnyL P md ops Q S late f done a w → wpAny P md ops Q f done a w
  | 0, _, _, _, h => h
  | f + 1, _, _, _, h => ⟨h.1, fun i hi => wpOp_mono (fun a' w' h' => anyL_of f _ a' w' h'.2) (h.2 i hi)⟩
/-- All late operations wait for i. -/
def awaited (md : Region.Mode) (ops : Array Oper) (late : List Nat) (i : Nat) : Bool := late.all fun t => match ops[t]? with | some o => o.after.any fun e => Region.binds md e && e.on == i | none => true
theorem awaited_spec {i : Nat} (h : awaited md ops late i = true) {t : Nat} {o : Oper} (ho : ops[t]? = some o) (ht : late.contains t = true) : ∃ e ∈ o.after, Region.binds md e = true ∧ e.on = i := by
  unfold awaited at h
  rw [List.all_eq_true] at h
  have h2 := h t (by simpa using ht)
  rw [ho] at h2
  obtain ⟨e, he, hb⟩ := Array.any_eq_true'.1 h2
  rw [Bool.and_eq_true, beq_iff_eq] at hb
  exact ⟨e, he, hb⟩
/-- What is true of the world while an operation may be brought forward: S if it is asked for. -/
theorem anyL_first {S0 : World → Prop} {i : Nat} (hiL : late.contains i = false) (hl : (∀ w, S0 w) ∨ (awaited md ops late i = true ∧ ∀ w, S w → S0 w)) {oi : Oper} {v : Value} (hi : ops[i]? = some oi) (hsel : Region.noSelect ops = true)
    (hQ : ∀ c a w, Q (.panic c) (a.put oi.dst v) w → Q (.panic c) a w) (f : Nat) : ∀ (done : Array Bool) (a : Act) (w : World),
      (∀ j oj, ops[j]? = some oj → j ≠ i → done.getD j true = false → (∀ e ∈ oj.after, Region.binds md e = true → e.on ≠ i) → oi.apart ops oj = true) →
      i ∈ Region.ready md ops done → YieldsIf P ops S0 oi v a → (freshB late done = true → S w) → ((∀ w, S0 w) ∨ freshB late done = true) → AnyL P md ops Q S late f (done.setIfInBounds i true) (a.put oi.dst v) w → AnyL P md ops Q S late (f + 1) done a w := by
  have hS0 : ∀ (done : Array Bool) (w : World), (freshB late done = true → S w) → ((∀ w, S0 w) ∨ freshB late done = true) → S0 w := fun done w h1 h2 => by
    rcases h2 with h2 | h2
    · exact h2 w
    · rcases hl with hl | ⟨_, hl⟩
      · exact hl w
      · exact hl w (h1 h2)
  induction f with
  | zero =>
    intro done a w hfree hr hy hS hF hx
    constructor
    · intro h; rw [h] at hr; cases hr
    · intro j hj
      rcases Nat.decEq j i with hne | he
      · have := ready_mono hj hne
        rw [hx.1] at this
        cases this
      · rw [he]; exact hy.wpOp hi (hS0 done w hS hF) ⟨fun h => hS (fresh_of h hiL), hx⟩
  | succ f ih =>
    intro done a w hfree hr hy hS hF hx
    constructor
    · intro h; rw [h] at hr; cases hr
    · intro j hj
      rcases Nat.decEq j i with hne | he
      · have hstep := hx.2 j (ready_mono hj hne)
        obtain ⟨hju, oj, hoj, hall⟩ := mem_ready.1 hj
        have hfirst : done.getD i false = false := by
          have h0 := (mem_ready.1 hr).1
          rcases Nat.lt_or_ge i done.size with h' | h'
          · simp [h'] at h0 ⊢; exact h0
          · simp [Array.getElem?_eq_none h']
        have hno : ∀ e ∈ oj.after, Region.binds md e = true → e.on ≠ i := fun e he hb heq => by
          have := hall e he hb
          rw [heq, hfirst] at this
          cases this
        have hsel' := Region.noSelect_spec hsel
        refine wpOp_mono (fun a' w' h3 => ?_) (wpOp_putIf hoj (hfree j oj hoj hne hju hno) (fun cs b => hsel' i oi cs b hi) (fun cs b => hsel' j oj cs b hoj) hQ hy hstep)
        obtain ⟨hy', hs', hx'⟩ := h3
        have hs2 : freshB late (done.setIfInBounds j true) = true → S w' := fun h => hs' (by rw [Array.setIfInBounds_comm _ _ (Ne.symm hne)]; exact fresh_set h hiL)
        have hF2 : (∀ w, S0 w) ∨ freshB late (done.setIfInBounds j true) = true := by
          rcases hF with hF | hF
          · exact .inl hF
          · rcases hl with hl | ⟨hl, _⟩
            · exact .inl hl
            · refine .inr (fresh_set hF ?_)
              cases hc : late.contains j with
              | false => rfl
              | true =>
                obtain ⟨e, he, hb, hon⟩ := awaited_spec hl hoj hc
                exact absurd hon (hno e he hb)
        refine ⟨hs2, ih _ a' w' (fun k ok hk hki hun hno' => hfree k ok hk hki ?_ hno') (ready_mono hr (Ne.symm hne)) hy' hs2 hF2 ?_⟩
        · rcases Nat.decEq j k with h | h
          · rwa [getD_set_ne true h] at hun
          · rw [← h]; exact hju
        · rw [Array.setIfInBounds_comm _ _ hne]; exact hx'
      · rw [he]; exact hy.wpOp hi (hS0 done w hS hF) ⟨fun h => hS (fresh_of h hiL), hx⟩
/-- An operation that reads what S says. -/
theorem anyL_read {i : Nat} {oi : Oper} {v : Value} {f : Nat} {done : Array Bool} {a : Act} {w : World} (hi : ops[i]? = some oi) (hiL : late.contains i = false) (hl : awaited md ops late i = true)
    (hs : Region.noSelect ops = true) (hf : Region.free md ops done i = true) (hr : (Region.ready md ops done).contains i = true)
    (hQ : ∀ c a w, Q (.panic c) (a.put oi.dst v) w → Q (.panic c) a w) (hy : YieldsIf P ops S oi v a) (hF : freshB late done = true) (hS : S w) (h : AnyL P md ops Q S late f (done.setIfInBounds i true) (a.put oi.dst v) w) : AnyL P md ops Q S late (f + 1) done a w :=
  anyL_first (S0 := S) hiL (.inr ⟨hl, fun _ h => h⟩) hi hs hQ f done a w (Region.free_spec hi hf) (by simpa using hr) hy (fun _ => hS) (.inr hF) h
/-- An operation that reads no memory. -/
theorem anyL_take {i : Nat} {oi : Oper} {v : Value} {f : Nat} {done : Array Bool} {a : Act} {w : World} (hi : ops[i]? = some oi) (hiL : late.contains i = false)
    (hs : Region.noSelect ops = true) (hf : Region.free md ops done i = true) (hr : (Region.ready md ops done).contains i = true)
    (hQ : ∀ c a w, Q (.panic c) (a.put oi.dst v) w → Q (.panic c) a w) (hy : YieldsIf P ops (fun _ => True) oi v a) (hS : freshB late done = true → S w) (h : AnyL P md ops Q S late f (done.setIfInBounds i true) (a.put oi.dst v) w) : AnyL P md ops Q S late (f + 1) done a w :=
  anyL_first (S0 := fun _ => True) hiL (.inl fun _ => trivial) hi hs hQ f done a w (Region.free_spec hi hf) (by simpa using hr) hy hS (.inl fun _ => trivial) h
/-- The one operation that may come up now. -/
theorem anyL_next {i : Nat} {o : Oper} {f : Nat} {done : Array Bool} {a : Act} {w : World} (hr : Region.ready md ops done = [i]) (ho : ops[i]? = some o)
    (h : ∀ K : Act → World → Prop, Shut (∀ a w, (freshB late (done.setIfInBounds i true) = true → S w) → ((freshB late (done.setIfInBounds i true) = true → S w) → AnyL P md ops Q S late f (done.setIfInBounds i true) a w) → K a w) → if Region.wanted o (yielded ops a.tmps) = true then Oper.wp P o a w K Q else K (a.put o.dst undef) w) : AnyL P md ops Q S late (f + 1) done a w := by
  refine ⟨fun h0 => (by rw [hr] at h0; cases h0), fun j hj => ?_⟩
  rw [hr] at hj
  obtain rfl := List.mem_singleton.1 hj
  exact wpOp_step ho fun K hK => h K fun a' w' hS hx => hK a' w' ⟨hS, hx hS⟩
theorem anyL_two {i j : Nat} {oi oj : Oper} {f : Nat} {done : Array Bool} {a : Act} {w : World} (hr : Region.ready md ops done = [i, j]) (hi : ops[i]? = some oi) (hj : ops[j]? = some oj)
    (h1 : ∀ K : Act → World → Prop, Shut (∀ a w, (freshB late (done.setIfInBounds i true) = true → S w) → ((freshB late (done.setIfInBounds i true) = true → S w) → AnyL P md ops Q S late f (done.setIfInBounds i true) a w) → K a w) → if Region.wanted oi (yielded ops a.tmps) = true then Oper.wp P oi a w K Q else K (a.put oi.dst undef) w)
    (h2 : ∀ K : Act → World → Prop, Shut (∀ a w, (freshB late (done.setIfInBounds j true) = true → S w) → ((freshB late (done.setIfInBounds j true) = true → S w) → AnyL P md ops Q S late f (done.setIfInBounds j true) a w) → K a w) → if Region.wanted oj (yielded ops a.tmps) = true then Oper.wp P oj a w K Q else K (a.put oj.dst undef) w) : AnyL P md ops Q S late (f + 1) done a w := by
  refine ⟨fun h0 => (by rw [hr] at h0; cases h0), fun k hk => ?_⟩
  rw [hr] at hk
  rcases List.mem_cons.1 hk with rfl | hk
  · exact wpOp_step hi fun K hK => h1 K fun a' w' hS hx => hK a' w' ⟨hS, hx hS⟩
  · obtain rfl := List.mem_singleton.1 hk
    exact wpOp_step hj fun K hK => h2 K fun a' w' hS hx => hK a' w' ⟨hS, hx hS⟩
theorem anyL_three {i j k : Nat} {oi oj ok : Oper} {f : Nat} {done : Array Bool} {a : Act} {w : World} (hr : Region.ready md ops done = [i, j, k]) (hi : ops[i]? = some oi) (hj : ops[j]? = some oj) (hk : ops[k]? = some ok)
    (h1 : ∀ K : Act → World → Prop, Shut (∀ a w, (freshB late (done.setIfInBounds i true) = true → S w) → ((freshB late (done.setIfInBounds i true) = true → S w) → AnyL P md ops Q S late f (done.setIfInBounds i true) a w) → K a w) → if Region.wanted oi (yielded ops a.tmps) = true then Oper.wp P oi a w K Q else K (a.put oi.dst undef) w)
    (h2 : ∀ K : Act → World → Prop, Shut (∀ a w, (freshB late (done.setIfInBounds j true) = true → S w) → ((freshB late (done.setIfInBounds j true) = true → S w) → AnyL P md ops Q S late f (done.setIfInBounds j true) a w) → K a w) → if Region.wanted oj (yielded ops a.tmps) = true then Oper.wp P oj a w K Q else K (a.put oj.dst undef) w)
    (h3 : ∀ K : Act → World → Prop, Shut (∀ a w, (freshB late (done.setIfInBounds k true) = true → S w) → ((freshB late (done.setIfInBounds k true) = true → S w) → AnyL P md ops Q S late f (done.setIfInBounds k true) a w) → K a w) → if Region.wanted ok (yielded ops a.tmps) = true then Oper.wp P ok a w K Q else K (a.put ok.dst undef) w) : AnyL P md ops Q S late (f + 1) done a w := by
  refine ⟨fun h0 => (by rw [hr] at h0; cases h0), fun t ht => ?_⟩
  rw [hr] at ht
  rcases List.mem_cons.1 ht with rfl | ht
  · exact wpOp_step hi fun K hK => h1 K fun a' w' hS hx => hK a' w' ⟨hS, hx hS⟩
  · rcases List.mem_cons.1 ht with rfl | ht
    · exact wpOp_step hj fun K hK => h2 K fun a' w' hS hx => hK a' w' ⟨hS, hx hS⟩
    · obtain rfl := List.mem_singleton.1 ht
      exact wpOp_step hk fun K hK => h3 K fun a' w' hS hx => hK a' w' ⟨hS, hx hS⟩
theorem anyL_done {done : Array Bool} {a : Act} {w : World} (hr : Region.ready md ops done = []) (h : Q .normal a w) : ∀ f, AnyL P md ops Q S late f done a w
  | 0 => ⟨hr, h⟩
  | _ + 1 => ⟨fun _ => h, by rw [hr]; simp⟩
/-- Ways that meet again. -/
theorem anyL_merge {f0 : Nat} {d0 : Array Bool} {a0 : Act} {w0 : World} (G : Nat → Array Bool → Act → World → Prop) (h1 : ∀ f d a w, G f d a w → AnyL P md ops Q S late f d a w) (h2 : (∀ f d a w, G f d a w → AnyL P md ops Q S late f d a w) → AnyL P md ops Q S late f0 d0 a0 w0) : AnyL P md ops Q S late f0 d0 a0 w0 := h2 h1
theorem wp_region_L (S : World → Prop) (late : List Nat) {id : Nat} {a : Act} {w : World} (hm : P.follows .mixedOrders = true) (hS : S w.drew) (h : S w.drew → AnyL P .any ops Q S late ops.size (Array.replicate ops.size false) a w.drew) : (Code.region id ops true).wp P Q a w :=
  wp_region_any hm (anyL_of _ _ _ _ (h hS))
end
end Go.Proofs.Ytcembocnkndlhaa
