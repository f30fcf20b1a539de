/- Parts Yj: words, walks and laws that the claims of this seat share. -/
import Derived.Test.YtdibijhaiaiifaaDoorJ17
/- The walk of build with columns. -/
namespace Go.Proofs.YtdibijhaiaiifaaDoor
open Go.RowKit
theorem Agree.of_below_le {A B : World} {P : Nat → Prop} (h : Below A.heap.size A B) (_ : ∀ k, P k → k < A.heap.size) : Agree P A B := Agree.of_below h
theorem rows_tail (l : List RR) : rows (l.map tailR) = (rows l).map tailW := by unfold rows; rw [List.map_map, List.map_map]; rfl
theorem build_ts {n m c : Nat} {X : Nat → Prop} {D : List RR} {p : Option Addr} {w0 w : World} {Q : Ending → World → Prop} (hIH : ∀ W, Below w0.heap.size w0 W → Calls Tryd.prog 106 #[.int .i64 n, .slice p m c] W (BuildR X n D W)) (hb : Below w0.heap.size w0 w)
    (k : ∀ t w', (∀ W, Agree X w' W → TrOk W t) → Hid (t.tr = buildT n (rows D)) → Below w0.heap.size w0 w' → Q (.returned (.agg #[t.vv, t.kv, t.wv])) w') : Calls Tryd.prog 106 #[.int .i64 n, .slice p m c] w Q :=
  (hIH w hb).mono fun e w' ⟨t, he, h1, h2, h3⟩ => by subst he; exact k t w' h1 h2 (below_trans hb h3)
theorem Agree.of_below2 {A B : World} {n : Nat} {P : Nat → Prop} (h : Below n A B) : Agree (fun k => P k ∨ n ≤ k) A B := ⟨h.os, h.tape, h.output, h.size, fun k _ hx => h.block k (Nat.not_le.1 fun e => hx (.inr e))⟩
theorem runs_sub : ∀ (n : Nat) (l : List RR), l.length ≤ n → ∀ r ∈ runsL l, r ≠ [] ∧ (∀ x ∈ r, x ∈ l) ∧ r.length ≤ l.length
  | _, [], _, r, hr => by rw [runsL] at hr; cases hr
  | 0, x :: l, h, _, _ => by simp at h
  | n + 1, x :: l, h, r, hr => by
    rw [runsL_cons] at hr
    have hd := drop_while_lt (x := x) (r := l)
    rcases List.mem_cons.1 hr with rfl | hr
    · refine ⟨?_, fun z hz => (List.takeWhile_sublist _).mem hz, (List.takeWhile_sublist _).length_le⟩
      rw [List.takeWhile_cons, if_pos (show sameK x x = true from decide_eq_true rfl)]
      simp
    · obtain ⟨h1, h2, h3⟩ := runs_sub n _ (by omega) r hr
      exact ⟨h1, fun z hz => (List.dropWhile_sublist _).mem (h2 z hz), by omega⟩
theorem runs_mem {L : List RN} {l : List RR} (h : L.map (·.rs) = runsL l) {r : RN} (hr : r ∈ L) : r.rs ≠ [] ∧ (∀ x ∈ r.rs, x ∈ l) ∧ r.rs.length ≤ l.length := runs_sub _ l (Nat.le_refl _) r.rs (by rw [← h]; exact List.mem_map.2 ⟨r, hr, rfl⟩)
set_option maxHeartbeats 8000000 in
set_option maxRecDepth 1000000 in
theorem build_succ (n : Nat) (hn : n ≤ 1000) (IH : BuildC n) : BuildC (n + 1) := by
  intro X p c l w hX hl hlen hln
  have HLEN := Lib.hid hlen
  clear hlen
  obtain ⟨w1, hw1⟩ : ∃ z, (w.alloc (.cells #[.slice none 0 0, .slice none 0 0, .slice none 0 0] 64)).alloc (.cells #[.slice none 0 0, .slice none 0 0, .slice none 0 0] 64) = z := ⟨_, rfl⟩
  have B1 : Below w.heap.size w w1 := by rw [← hw1]; exact below_alloc' (below_new _ _)
  have X4 : Cel w1 w.heap.size 64 [.slice none 0 0, .slice none 0 0, .slice none 0 0] := by rw [← hw1]; exact (Cel.new w 64 _).keep (below_new _ _)
  have X5 : Cel w1 (w.heap.size + 1) 64 [.slice none 0 0, .slice none 0 0, .slice none 0 0] := by
    have := Cel.new (w.alloc (.cells #[.slice none 0 0, .slice none 0 0, .slice none 0 0] 64)) 64 [.slice none 0 0, .slice none 0 0, .slice none 0 0]
    rw [World.size_alloc, hw1] at this
    exact this
  go_enter Tryd.func106, Tryd.ntmps106
  go_upto_region 2 with fail
  clear hw1
  obtain ⟨b4, hb4e⟩ : ∃ b, w.heap.size = b := ⟨_, rfl⟩
  obtain ⟨b5, hb5e⟩ : ∃ b, b4 + 1 = b := ⟨_, rfl⟩
  rw [hb4e, hb5e] at X5
  rw [hb4e] at X4
  rw [hb4e]
  rw [hb5e]
  have HB4 := Lib.hid hb4e
  have h54 : b4 ≠ b5 := by omega
  have h5w : w.heap.size ≤ b5 := by omega
  have h4w : w.heap.size ≤ b4 := by omega
  clear hb4e hb5e
  have hz : (((n + 1 : Nat) : Int) == 0) = false := by rw [beq_eq_false_iff_ne]; omega
  have hs5 : b5 < w1.heap.size := X5.lt
  have hs4 : b4 < w1.heap.size := X4.lt
  have HL1 : Off (fun W (_ : Unit) => IsRel W (.slice p l.length c) l) w1 (fun k => X k ∨ k = b4 ∨ k = b5) () := Off.next (X := X) (fun a b h k => IsRel.keep k h) (fun W hW => hl W hW) (.of_below B1) fun k hk => by
    rcases hk with hk | hk | hk
    · exact .inl hk
    · rw [hk]; exact .inr h4w
    · rw [hk]; exact .inr h5w
  have hR := runs_any (fun k => X k ∨ k = b4 ∨ k = b5) p c l w1 (fun k hk => by
    rcases hk with hk | hk | hk
    · have := hX k hk; have := B1.size; omega
    · omega
    · omega) (fun W hW => HL1 W hW) (fun x hx => fst_of (HLEN.out x hx) (by omega)) hln
  go_wp2_with fail
  refine hR.mono ?_
  clear hR
  rintro e w2 ⟨p26, c26, L, rfl, HR, HL, HLL, B2⟩
  have hLl : L.length ≤ 100000 := by have := HLL.out; omega
  replace X4 := X4.keep B2
  replace X5 := X5.keep B2
  have B12 := below_trans B1 B2
  have h4b : b4 < w2.heap.size := X4.lt
  have h5b : b5 < w2.heap.size := X5.lt
  have HRR : Off (fun W (_ : Unit) => IsRuns W (.slice p26 L.length c26) L) w2 (fun k => X k ∨ k = b4 ∨ k = b5) () := fun W hW => HR W hW
  have HMEM := Lib.hid (show ∀ r ∈ L, r.rs ≠ [] ∧ (∀ x ∈ r.rs, x ∈ l) ∧ r.rs.length ≤ l.length from fun r hr => runs_mem HL.out hr)
  clear HR HL1
  have HRE := Lib.hid HRR
  clear HRR
  have hXw : ∀ k, X k → k < w2.heap.size := fun k hk => by have := hX k hk; have := B12.size; omega
  go_wp2
  go_loopg [28] L.length (fun g vi wr => ∃ (j : Nat) (pv : Option Addr) (cv : Nat) (vs : List Vl) (pk : Option Addr) (ck : Nat) (ks : List TR), vi = .int .i64 j ∧ j ≤ L.length ∧ L.length - j ≤ g ∧ vs.length = j ∧ ks.length = j ∧ Hid (vs = (L.take j).map fun r => headV (rows r.rs)) ∧ Hid (ks.map TR.tr = (L.take j).map fun r => buildT n ((rows r.rs).map tailW)) ∧ BldI X b4 b5 w2.heap.size wr (.slice pv vs.length cv) vs (.slice pk ks.length ck) ks ∧ Below w.heap.size w wr ∧ Agree (fun k => k = b5 ∨ w2.heap.size ≤ k) w2 wr)
  case atStart => exact ⟨0, none, 0, [], none, 0, [], rfl, Nat.zero_le _, Nat.le_refl _, rfl, rfl, Lib.hid (by simp), Lib.hid (by simp), ⟨X4, X5, Owns.nil _ _, Owns.nil _ _, fun k h => (by cases h), by simp⟩, B12, Agree.refl _ _⟩
  case round =>
    obtain ⟨j, pv, cv, vs, pk, ck, ks, rfl, hj, hg, hvl, hkl, VV, VK, I, B, AG⟩ := hrel
    have HVL := Lib.hid hvl
    have HKL := Lib.hid hkl
    have hv1 : vs.length ≤ 100000 := by omega
    have hk1 : ks.length ≤ 100000 := by omega
    clear hvl hkl
    by_cases hlt : j < L.length
    · have hltz : (j : Int) < (L.length : Int) := by omega
      obtain ⟨run, hrun⟩ := getElem_of_lt hlt
      have HRW : Off (fun W (_ : Unit) => IsRuns W (.slice p26 L.length c26) L) wr (X3 X b4 b5 (.slice pv vs.length cv) (.slice pk ks.length ck)) () := Off.next (fun a b h k => IsRuns.keep k h) (Off.wide (fun a b h k => IsRuns.keep k h) HRE.out) (AG.mono fun k hk => by
          rcases hk with hk | hk
          · exact .inl (.inr (.inr hk))
          · exact .inr hk) fun k hk => by
        rcases hk with hk | hk | hk | hk | hk
        · exact .inl (.inl (.inl hk))
        · exact .inl (.inl (.inr (.inl hk)))
        · exact .inl (.inl (.inr (.inr hk)))
        · exact .inl (.inr (I.ou.lt k hk).1)
        · exact .inl (.inr (I.ov.lt k hk).1)
      have HRN := Lib.hid hrun
      have hRr := Off.here HRW
      have ROK : ∀ W, Agree (X3 X b4 b5 (.slice pv vs.length cv) (.slice pk ks.length ck)) wr W → IsRel W run.v run.rs := fun W hW => (HRW W hW).2 run (List.mem_of_getElem? hrun)
      have HROK := Lib.hid ROK
      have hrel0 := ROK wr (Agree.refl _ _)
      clear ROK HRW
      obtain ⟨_, _, er, hrr, -⟩ := hRr.1
      injection er with e1 e2 e3
      subst e1 e3
      obtain ⟨rb, roff, hp26, hrc⟩ := hrr.at_ hrun
      have r0 := hrc j run hrun 0 _ rfl
      rw [Nat.mul_one, Nat.add_zero] at r0
      subst hp26
      clear hrc hrr hRr hrun e2
      obtain ⟨hne, hmem, hrl⟩ := HMEM.out run (List.mem_of_getElem? HRN.out)
      obtain ⟨x0, hx0⟩ : ∃ x, run.rs[0]? = some x := ⟨_, List.getElem?_eq_getElem (Nat.pos_of_ne_zero fun e => hne (List.eq_nil_of_length_eq_zero e))⟩
      obtain ⟨ab, aoff, hrp, a0, a1, rx0⟩ := hrel0.at_ hx0
      have hx0l := HLEN.out x0 (hmem x0 (List.mem_of_getElem? hx0))
      obtain ⟨y, hy⟩ := fst_of hx0l (by omega)
      obtain ⟨vb, voff, hvp, d0, d1, d2⟩ := vals_at' rx0.vals hy
      have hrv : run.v = .slice (some ⟨ab, aoff, none⟩) run.rs.length run.c := by show Value.slice run.p _ _ = _; rw [hrp]
      have hxv : x0.av = .slice (some ⟨vb, voff, none⟩) x0.t.length x0.ca := by show Value.slice x0.pa _ _ = _; rw [hvp]
      rw [hrv] at r0
      have HRV := Lib.hid hrv
      rw [Nat.zero_mul, Nat.add_zero] at a0
      rw [hxv] at a0
      simp only [Nat.zero_mul, Nat.add_zero] at d0 d1 d2
      have hrpos : (0 : Int) < (run.rs.length : Int) := by have := (List.getElem?_eq_some_iff.1 hx0).1; omega
      have hrle : run.rs.length ≤ 100000 := by omega
      have hrposN : 0 < run.rs.length := by omega
      obtain ⟨nt, hnt⟩ : ∃ m, x0.t.length = m := ⟨_, rfl⟩
      have htpos : (0 : Int) < (nt : Int) := by omega
      have htposN : 0 < nt := by omega
      rw [hnt] at a0
      have HHV := Lib.hid (show headV (rows run.rs) = y by
        unfold headV
        cases hrs : run.rs with
        | nil => rw [hrs] at hx0; cases hx0
        | cons z zs =>
          have : z = x0 := by rw [hrs] at hx0; simpa using hx0
          subst this
          show ((fst? z.t).getD zeroVl) = y
          rw [hy]; rfl)
      have HMM := Lib.hid hmem
      have HX0 := Lib.hid hx0
      clear hrv hxv hrp hvp hy hx0 hx0l hmem hne a1 rx0 hrel0 hnt hrl
      have hmr : IsRows 3 encVl (wr.alloc (.cells #[.int .i64 y.t, .int .i64 y.n, strV y.s] 58)) (.slice (some ⟨wr.heap.size, 0, none⟩) 1 1) [y] := IsRows.lit wr [y] encsV (by simp)
      have bX := below_new wr (.cells #[.int .i64 y.t, .int .i64 y.n, strV y.s] 58)
      have y5 := I.c5.at_ (j := 0) rfl
      have y5' := (I.c5.keep bX).at_ (j := 0) rfl
      have hwb : w2.heap.size ≤ wr.heap.size := AG.size
      go_wp2
      go_region_law
        (first
          | (refine step_own (wr := wr) (v := .slice pv vs.length cv) fitsV encsV (by rfl) (.tmp 33) (.tmp 40) (by rfl) (by rfl) (by rfl) I.ou (by first | exact bX | exact bX.drew | exact bX.drew.drew | exact bX.drew.drew.drew) (by exact hmr) hwb (by omega) (by simp) ?_; intro p9 c9 w9 H9 B9 hG9 hU9; rw [show (vs ++ [y]).length = vs.length + 1 from by simp] at H9 hU9; have hGG : (wr.alloc (.cells #[.int .i64 y.t, .int .i64 y.n, strV y.s] 58)).grownBy w9 (Value.slice pv vs.length cv).ownBlock := (by first | exact hG9 | exact grown_undrew hG9 | exact grown_undrew (grown_undrew hG9) | exact grown_undrew (grown_undrew (grown_undrew hG9))); obtain ⟨C9, I9⟩ := I.val (u' := .slice p9 (vs.length + 1) c9) (m := [y]) h4b h5b h54 bX H9 hGG hU9; have y9 := C9.at_ (j := 0) rfl; have f9 := C9.free 0))
      all_goals
        have A9 : Agree (X3 X b4 b5 (.slice pv vs.length cv) (.slice pk ks.length ck)) wr (w9.setCell ⟨b5, 0, none⟩ (.slice p9 (vs.length + 1) c9)) := ((Agree.of_below bX).trans (.of_grown hGG fun k hk => .inr (.inr (.inr (.inl hk))))).set (.inr (.inr (.inl rfl)))
        have hU10 := hU9
        have B10 := (B.trans (B9.mono (Nat.le_trans B12.size (Nat.le_refl _)))).setCell (p := ⟨b5, 0, none⟩) h5w (.slice p9 (vs.length + 1) c9)
        have AG10 : Agree (fun k => k = b5 ∨ w2.heap.size ≤ k) w2 (w9.setCell ⟨b5, 0, none⟩ (.slice p9 (vs.length + 1) c9)) := (AG.trans (Agree.of_below2 B9)).set (.inl rfl)
        obtain ⟨w10, hw10⟩ : ∃ z, w9.setCell ⟨b5, 0, none⟩ (.slice p9 (vs.length + 1) c9) = z := ⟨_, rfl⟩
        rw [hw10] at A9 I9 B10 AG10
        rw [hw10]
        clear hw10
        have HOFF := Lib.hid (show Off (fun W (_ : Unit) => IsRel W run.v run.rs) w10 (X3 X b4 b5 (.slice p9 (vs.length + 1) c9) (.slice pk ks.length ck)) () from Off.next (fun a b h k => IsRel.keep k h) (fun W hW => HROK.out W hW) A9 fun k hk => by
          rcases hk with hk | hk | hk | hk | hk
          · exact .inl (.inl hk)
          · exact .inl (.inr (.inl hk))
          · exact .inl (.inr (.inr (.inl hk)))
          · rcases hU10 with e | e
            · exact .inl (.inr (.inr (.inr (.inl (by rw [← e]; exact hk)))))
            · rw [e] at hk; injection hk with hk
              exact .inr (by rw [← hk]; exact bX.size)
          · exact .inl (.inr (.inr (.inr (.inr hk)))))
        clear y5 y5' y9 f9 C9 hG9 hGG hU9 hU10 H9 A9 hmr bX I B9 AG r0 a0 d0 d1 d2 HROK
        have hrows := (Off.here HOFF.out).1
        rw [HRV.out] at hrows
        go_wp2_with fail
        refine (CloneW_any _ run.rs _ hrows (by omega)).mono ?_
        rintro e w11 ⟨u11, rfl, HC, B11⟩
        obtain ⟨p11, c11, rfl⟩ := HC.form
        obtain ⟨G, cur0, rfl, -, hG, -, hc11, hcm, -, -⟩ := HC.open2 hrposN
        have hc63 : c11 ≤ 9223372036854775807 := by unfold maxLen at hcm; omega
        clear cur0 hcm hrows
        go_wp2
        go_loopg [47] run.rs.length (fun g vi wq => ∃ (k : Nat) (d : List RR), vi = .int .i64 k ∧ k ≤ run.rs.length ∧ run.rs.length - k ≤ g ∧ Hid (Struck run.rs k d) ∧ Owns 2 44 encR wq w10.heap.size (.slice (some ⟨G, 0, none⟩) run.rs.length c11) d ∧ Below w10.heap.size w10 wq)
        case atStart => exact ⟨0, run.rs, rfl, Nat.zero_le _, Nat.le_refl _, Lib.hid (Struck.start _), HC, B11⟩
        case round =>
          obtain ⟨k, d, rfl, hk, hg2, V2, HR, Bq⟩ := hrel
          by_cases hlk : k < run.rs.length
          · have hlkz : (k : Int) < (run.rs.length : Int) := by omega
            obtain ⟨x, hx⟩ := getElem_of_lt hlk
            have hd := V2.out.get hx
            obtain ⟨_, cur, e, -, -, hblk, -, -, -, htk⟩ := HR.open2 (by have := V2.out.len; omega)
            cases e
            have k0 := (take_get htk hd).1
            have rxw := (Off.here HOFF.out).2 x (List.mem_of_getElem? hx)
            have hxn := HLEN.out x (HMM.out x (List.mem_of_getElem? hx))
            obtain ⟨y2, hy2⟩ := fst_of hxn (by omega)
            obtain ⟨vb2, vo2, hvp2, -⟩ := vals_at' rxw.vals hy2
            have hta : (tailR x).av = .slice (if x.ca = 1 then some ⟨vb2, vo2, none⟩ else some ⟨vb2, vo2 + 3, none⟩) (x.t.length - 1) (x.ca - 1) := by
              show Value.slice (match x.pa with | some a => if x.ca = 1 then some a else some ⟨a.block, a.off + 3, a.spot⟩ | none => none) (x.t.drop 1).length (x.ca - 1) = _
              rw [hvp2, List.length_drop]
            have hxv2 : x.av = .slice (some ⟨vb2, vo2, none⟩) x.t.length x.ca := by show Value.slice x.pa _ _ = _; rw [hvp2]
            have y0 := cell_at hblk k0
            have f0 := free_at (j := k * 2) hblk
            have HP := HR.put1 hd (y := tailR x) rfl
            have BP := Bq.setCell (p := ⟨G, k * 2, none⟩) hG (tailR x).av
            have VD := Lib.hid (V2.out.step hd)
            have hcx : x.t.length ≤ x.ca ∧ x.ca ≤ 9223372036854775807 := by
              obtain ⟨_, _, e, -, h1, h2, h3⟩ := rxw.vals
              injection e with e1 e2 e3
              omega
            rw [hxv2] at y0
            rw [hta] at HP BP
            obtain ⟨nx, hnx⟩ : ∃ m, x.t.length = m := ⟨_, rfl⟩
            obtain ⟨cx, hcx2⟩ : ∃ m, x.ca = m := ⟨_, rfl⟩
            rw [hnx, hcx2] at y0 HP BP hcx
            have hnx1 : (1 : Int) ≤ (nx : Int) := by omega
            have hnx2 : (nx : Int) ≤ (cx : Int) := by omega
            have hnx3 : (1 : Int) ≤ (cx : Int) := by omega
            clear hx hd k0 hblk htk rxw hxn hy2 hvp2 hta hxv2 hnx hcx2
            generalize hsv : (if cx = 1 then (some ⟨vb2, vo2, none⟩ : Option Addr) else some ⟨vb2, vo2 + 3, none⟩) = pa2 at HP BP
            go_wp2
            go_roundg (run.rs.length - (k + 1))
            case measure => omega
            case rel => exact ⟨k + 1, d.set k (tailR x), by go_num, hlk, Nat.le_refl _, VD, HP, BP⟩
          · have hlkz : ¬ (k : Int) < (run.rs.length : Int) := by omega
            have hD := V2.out.whole (by omega)
            subst hD
            have hDl : (run.rs.map tailR).length = run.rs.length := List.length_map ..
            have I11 := I9.keep Bq
            have hIH : ∀ W, Below wr.heap.size wr W → Calls Tryd.prog 106 #[.int .i64 n, .slice (some ⟨G, 0, none⟩) run.rs.length c11] W (BuildR (X3 X b4 b5 (.slice p9 (vs.length + 1) c9) (.slice pk ks.length ck)) n (run.rs.map tailR) W) := fun W hW => by
              have hXX : ∀ k, X3 X b4 b5 (.slice p9 (vs.length + 1) c9) (.slice pk ks.length ck) k → k < w10.heap.size := fun k hk => by
                rcases hk with hk | hk | hk | hk | hk
                · have := hXw k hk; have := AG10.size; omega
                · have := AG10.size; omega
                · have := AG10.size; omega
                · exact (I9.ou.lt k hk).2
                · exact (I9.ov.lt k hk).2
              have := IH (X3 X b4 b5 (.slice p9 (vs.length + 1) c9) (.slice pk ks.length ck)) (some ⟨G, 0, none⟩) c11 (run.rs.map tailR) W (fun k hk => by have := hXX k hk; have := Bq.size; have := hW.size; omega) (fun W' hW' => by
                have hA := (Agree.of_below hW).trans hW'
                refine ⟨?_, fun z hz => ?_⟩
                · have := (HR.agree hA hXX).is encsR (by omega)
                  rw [hDl]; exact this
                · obtain ⟨x, hx, rfl⟩ := List.mem_map.1 hz
                  exact tailR_ok ((HOFF.out W' ((Agree.of_below_le Bq hXX).trans hA)).2 x hx) (by rw [HLEN.out x (HMM.out x hx)]; omega)) (fun z hz => by
                obtain ⟨x, hx, rfl⟩ := List.mem_map.1 hz
                show (x.t.drop 1).length = n
                rw [List.length_drop, HLEN.out x (HMM.out x hx)]; omega) (by omega)
              rw [hDl] at this
              exact this
            have y5 := I11.c5.at_ (j := 1) rfl
            have hn1 : ((n : Int) + 1 - 1) = (n : Int) := by omega
            have hwn : IntKind.i64.wrap (n : Int) = (n : Int) := by rw [IntKind.wrap_i64]; omega
            have hs2 : w2.heap.size ≤ wr.heap.size := Nat.le_trans AG10.size Bq.size
            clear HR
            go_wp2
            go_region_law
              (first
                | (go_simp; go_at_call 106; refine build_ts hIH (by with_reducible (repeat (first | assumption | exact Below.refl _ _ | refine below_alloc' ?_ | refine below_drew' ?_ | refine below_step (by assumption) ?_))) ?_; intro t wK hT HTT BK; have I12 := I11.keep BK; have yK := I12.c5.at_ (j := 1) rfl; have bX := below_new wK (.cells #[t.vv, t.kv, t.wv] 64); have hmr : IsRows 3 encK (wK.alloc (.cells #[t.vv, t.kv, t.wv] 64)) (.slice (some ⟨wK.heap.size, 0, none⟩) 1 1) [t] := IsRows.lit wK [t] encsK (by simp); have yA := (I12.c5.keep bX).at_ (j := 1) rfl; have hKs := BK.size)
                | (refine step_own (wr := wK) (v := .slice pk ks.length ck) fitsK encsK (by rfl) (.tmp 62) (.tmp 67) (by rfl) (by rfl) (by rfl) I12.ov (by first | exact bX | exact bX.drew | exact bX.drew.drew | exact bX.drew.drew.drew) (by exact hmr) (by omega) (by omega) (by simp) ?_; intro p8 c8 w8 H8 B8 hG8 hU8; rw [show (ks ++ [t]).length = ks.length + 1 from by simp] at H8 hU8; have hGG : (wK.alloc (.cells #[t.vv, t.kv, t.wv] 64)).grownBy w8 (Value.slice pk ks.length ck).ownBlock := (by first | exact hG8 | exact grown_undrew hG8 | exact grown_undrew (grown_undrew hG8) | exact grown_undrew (grown_undrew (grown_undrew hG8))); obtain ⟨C8, I8⟩ := I12.trie (v' := .slice p8 (ks.length + 1) c8) (r := [t]) h4b h5b h54 bX H8 hGG hU8 (fun t' ht' => by rw [List.mem_singleton.1 ht']; exact Off.keep (fun W hW => hT W hW) bX); have y8 := C8.at_ (j := 1) rfl; have f8 := C8.free 1))
            all_goals
              have VVN := Lib.hid (show vs ++ [y] = (L.take (j + 1)).map fun r => headV (rows r.rs) by rw [take_succ' HRN.out, List.map_append, ← VV.out, ← HHV.out]; rfl)
              have VKN := Lib.hid (show (ks ++ [t]).map TR.tr = (L.take (j + 1)).map fun r => buildT n ((rows r.rs).map tailW) by
                rw [take_succ' HRN.out, List.map_append, List.map_append, VK.out, List.map_cons, HTT.out, rows_tail]; rfl)
              have BN := (((B10.trans (Bq.mono (Nat.le_trans B12.size AG10.size))).trans (BK.mono (by have := B12.size; omega))).trans (B8.mono B12.size)).setCell (p := ⟨b5, 1, none⟩) h5w (.slice p8 (ks.length + 1) c8)
              have AN := (((AG10.trans (Agree.of_below2 (Bq.mono AG10.size))).trans (Agree.of_below2 (BK.mono hs2))).trans (Agree.of_below2 B8)).set (p := ⟨b5, 1, none⟩) (v := .slice p8 (ks.length + 1) c8) (.inl rfl)
              clear hT I12 I11 yK yA y5 y8 f8 C8 hmr bX hG8 hGG hU8 H8 hIH
              go_wp2
              go_roundg (L.length - (j + 1))
              case measure => omega
              case rel => exact ⟨j + 1, p9, c9, vs ++ [y], p8, c8, ks ++ [t], by go_num, hlt, Nat.le_refl _, by rw [List.length_append, HVL.out]; rfl, by rw [List.length_append, HKL.out]; rfl, VVN, VKN, by rw [List.length_append, List.length_append]; exact I8, BN, AN⟩
    · have hltz : ¬ (j : Int) < (L.length : Int) := by omega
      have y0 := I.c5.at_ (j := 0) rfl
      have y1 := I.c5.at_ (j := 1) rfl
      have y2 := I.c5.at_ (j := 2) rfl
      have x0 := I.c4.at_ (j := 0) rfl
      have x1 := I.c4.at_ (j := 1) rfl
      have x2 := I.c4.at_ (j := 2) rfl
      have f0 := I.c4.free 0
      have f1 := I.c4.free 1
      have f2 := I.c4.free 2
      have Z := ((I.c4.set 0 (.slice pv vs.length cv)).set 1 (.slice pk ks.length ck)).set 2 (.slice none 0 0)
      have z0 := Z.at_ (j := 0) rfl
      have z1 := Z.at_ (j := 1) rfl
      have z2 := Z.at_ (j := 2) rfl
      have BZ := ((B.setCell (p := ⟨b4, 0, none⟩) h4w (.slice pv vs.length cv)).setCell (p := ⟨b4, 1, none⟩) h4w (.slice pk ks.length ck)).setCell (p := ⟨b4, 2, none⟩) h4w (.slice none 0 0)
      have AZ : Agree (X3 X b4 b5 (.slice pv vs.length cv) (.slice pk ks.length ck)) wr (((wr.setCell ⟨b4, 0, none⟩ (.slice pv vs.length cv)).setCell ⟨b4, 1, none⟩ (.slice pk ks.length ck)).setCell ⟨b4, 2, none⟩ (.slice none 0 0)) := (((Agree.refl _ _).set (.inr (.inl rfl))).set (.inr (.inl rfl))).set (.inr (.inl rfl))
      have AY : Agree (fun k => X k ∨ k = b4) wr (((wr.setCell ⟨b4, 0, none⟩ (.slice pv vs.length cv)).setCell ⟨b4, 1, none⟩ (.slice pk ks.length ck)).setCell ⟨b4, 2, none⟩ (.slice none 0 0)) := (((Agree.refl _ _).set (.inr rfl)).set (.inr rfl)).set (.inr rfl)
      obtain ⟨wZ, hwZ⟩ : ∃ z, ((wr.setCell ⟨b4, 0, none⟩ (.slice pv vs.length cv)).setCell ⟨b4, 1, none⟩ (.slice pk ks.length ck)).setCell ⟨b4, 2, none⟩ (.slice none 0 0) = z := ⟨_, rfl⟩
      rw [hwZ] at z0 z1 z2 BZ AZ AY
      clear Z
      go_wp2
      try rw [hwZ]
      refine bodyPost_ret (v := .agg #[.slice pv vs.length cv, .slice pk ks.length ck, .slice none 0 0]) (by simp [results, Tryd.results106, go_sem, z0, z1, z2]) rfl ?_
      refine ⟨.mk pv cv vs pk ck ks none 0 [], rfl, fun W hW => ?_, Lib.hid ?_, BZ⟩
      · have hA : Agree (X3 X b4 b5 (.slice pv vs.length cv) (.slice pk ks.length ck)) wr W := AZ.trans (hW.mono fun k hk => .inl hk)
        have hA2 : Agree (fun k => X k ∨ k = b4) wr W := AY.trans (hW.mono fun k hk => .inl hk)
        have hlow : ∀ k, (X k ∨ k = b4) → k < w2.heap.size := fun k hk => by
          rcases hk with hk | hk
          · exact hXw k hk
          · omega
        exact .mk _ ((I.ou.agree hA2 hlow).is encsV (by omega)) ((I.ov.agree hA2 hlow).is encsK (by omega)) (IsSpans.nil W) fun t ht => I.kid t ht W hA
      · have hjl : j = L.length := by omega
        have hv := VV.out
        have hk := VK.out
        rw [hjl, List.take_length] at hv hk
        have hr := runs_rows l.length l (Nat.le_refl _)
        rw [← HL.out] at hr
        show Tr.mk vs (TR.trs ks) [] = Tr.mk ((runsW (rows l)).map headV) ((runsW (rows l)).map fun run => buildT n (run.map tailW)) []
        rw [trs_map, hk, hv, ← hr]
        simp only [List.map_map]
        rfl
theorem build_all : ∀ n : Nat, n ≤ 1000 → BuildC n
  | 0, _ => fun X p c l w _ hl _ hln => build_zero X p c l w hl hln
  | n + 1, h => build_succ n (by omega) (build_all n (by omega))
end Go.Proofs.YtdibijhaiaiifaaDoor
