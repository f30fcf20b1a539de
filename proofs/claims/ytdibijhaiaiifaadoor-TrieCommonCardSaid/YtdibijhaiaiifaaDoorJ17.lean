/- Parts Yg, Yh, Yi, Yl: words, walks and laws that the claims of this seat share. -/
import Derived.Test.YtdibijhaiaiifaaDoorJ16
/- The walk of runs. -/
namespace Go.Proofs.YtdibijhaiaiifaaDoor
open Go.RowKit
theorem grown_undrew {w w' : World} {row : Option Nat} (h : w.drew.grownBy w' row) : w.grownBy w' row := ⟨h.os, h.tape, h.output, h.size, h.block⟩
set_option maxHeartbeats 8000000 in
set_option maxRecDepth 1000000 in
theorem runs_any (X : Nat → Prop) (p : Option Addr) (c : Nat) (l : List RR) (w : World) (hX : ∀ k, X k → k < w.heap.size) (hl : ∀ W, Agree X w W → IsRel W (.slice p l.length c) l) (hne : ∀ x ∈ l, ∃ y, fst? x.t = some y) (hln : l.length ≤ 100000) :
    Calls Tryd.prog 134 #[.slice p l.length c, .func (.func 135) #[] #[]] w fun e w' => ∃ p' c', ∃ L : List RN, e = .returned (.slice p' L.length c') ∧ (∀ W, Agree X w' W → IsRuns W (.slice p' L.length c') L) ∧ Hid (L.map (·.rs) = runsL l) ∧ Hid (L.length ≤ l.length) ∧ Below w.heap.size w w' := by
  have HNE := Lib.hid hne
  clear hne
  obtain ⟨w1, hw1⟩ : ∃ z, (w.alloc (.cells #[.slice p l.length c] 23)).alloc (.cells #[.func (.func 135) #[] #[]] 135) = z := ⟨_, rfl⟩
  have B1 : Below w.heap.size w w1 := by rw [← hw1]; exact below_alloc' (below_new _ _)
  have X2 : Cel w1 w.heap.size 23 [.slice p l.length c] := by rw [← hw1]; exact (Cel.new w 23 _).keep (below_new _ _)
  have X3 : Cel w1 (w.heap.size + 1) 135 [.func (.func 135) #[] #[]] := by
    have := Cel.new (w.alloc (.cells #[.slice p l.length c] 23)) 135 [.func (.func 135) #[] #[]]
    rw [World.size_alloc, hw1] at this
    exact this
  have hsz : w1.heap.size = w.heap.size + 2 := by rw [← hw1]; simp
  go_enter Tryd.func134, Tryd.ntmps134
  go_upto_region 1 with fail
  clear hw1
  obtain ⟨b2, hb2e⟩ : ∃ b, w.heap.size = b := ⟨_, rfl⟩
  obtain ⟨b3, hb3e⟩ : ∃ b, b2 + 1 = b := ⟨_, rfl⟩
  rw [hb2e, hb3e] at X3
  rw [hb2e] at X2 hsz
  rw [hb2e]
  rw [hb3e]
  have HB2 := Lib.hid hb2e
  have h32 : b2 < b3 := by omega
  have hs1 : b3 < w1.heap.size := by omega
  have HBL := Lib.hid (show w.heap.size ≤ w1.heap.size from B1.size)
  have HS1 := Lib.hid hs1
  clear hb2e hb3e hsz
  go_wp2
  go_loopg [5] l.length (fun g v5 wr => ∃ (p' : Option Addr) (n' c' : Nat) (rest : List RR) (L : List RN), rest.length ≤ g ∧ Cel wr b2 23 [.slice p' n' c'] ∧ Cel wr b3 135 [.func (.func 135) #[] #[]] ∧ (∀ W, Agree X w W → IsRel W (.slice p' n' c') rest) ∧ (∀ r ∈ L, ∀ W, Agree X w W → RunOk W r) ∧ (∀ x ∈ rest, x ∈ l) ∧ Hold 1 23 encN RunOk (fun k => k = b2) wr w1.heap.size v5 L ∧ L.length + rest.length ≤ l.length ∧ Hid (L.map (·.rs) ++ runsL rest = runsL l) ∧ Below w.heap.size w wr ∧ w1.heap.size ≤ wr.heap.size)
  case atStart => exact ⟨p, _, c, l, [], Nat.le_refl _, X2, X3, hl, by simp, fun _ h => h, Hold.nil _ _, by simp, Lib.hid (by simp), B1, Nat.le_refl _⟩
  case round =>
    obtain ⟨p', n', c', rest, L, hg, C2, C3, hrestA, hruns, hmem, H5, hLr, V, B, hws⟩ := hrel
    obtain ⟨p5, c5, rfl⟩ := H5.form
    have hrest := hrestA w (Agree.refl _ _)
    obtain ⟨_, _, e, hm1, hm2, hm3⟩ := hrest.shape
    injection e with e1 e2 e3
    subst e1 e2 e3
    have HRUNS := Lib.hid hruns
    clear hruns
    have hb2 : b2 < w1.heap.size := by omega
    rcases rest with _ | ⟨x, r⟩
    · have q0 := C2.at_ (j := 0) rfl
      have RES := Lib.hid (show L.map (·.rs) = runsL l by have := V.out; rw [runsL, List.append_nil] at this; exact this)
      have RT : ∀ W, Agree X wr W → IsRuns W (.slice p5 L.length c5) L := fun W hW => ⟨(H5.1.agree hW fun k hk => by have := hX k hk; have := HBL.out; omega).is encsN (by omega), fun x hx => HRUNS.out x hx W ((Agree.of_below B).trans hW)⟩
      have RL := Lib.hid (show L.length ≤ l.length by omega)
      clear hrest hrestA
      go_wp2
      go_ret
      exact ⟨_, _, L, rfl, RT, RES, RL, B⟩
    · obtain ⟨rest, hre⟩ : ∃ z, x :: r = z := ⟨_, rfl⟩
      have hx0 : rest[0]? = some x := by rw [← hre]; rfl
      have hpos : (0 : Int) < (rest.length : Int) := by rw [← hre]; simp
      have hrl := runsL_cons x r
      rw [hre] at hrest hrestA hmem hLr V hrl hg hm1 hm2 C2
      clear hre
      have HRL := Lib.hid hrl
      have HMM := Lib.hid hmem
      clear hrl hmem
      obtain ⟨y0, hy0⟩ := HNE.out x (HMM.out x (List.mem_of_getElem? hx0))
      obtain ⟨b, off, hp, -⟩ := hrest.at_ hx0
      have hR0 := hrestA
      clear hrestA
      subst hp
      replace hrest := hrest.keep B
      have q0 := C2.at_ (j := 0) rfl
      have q3 := C3.at_ (j := 0) rfl
      have hI := indexW_any 147 ⟨b3, 0, none⟩ ⟨b2, 0, none⟩ (fun y => !sameK x y) _ rest wr (enters_of Tryd.func147 (by kernel_rfl) rfl) (fun W hW y hy => by
        obtain ⟨y', hy'⟩ := HNE.out y (HMM.out y hy)
        exact runs1_any y x y' y0 b3 b2 _ _ _ rest W ((hrest.keep hW).2 y hy) hy' (cell_keep hW q3) (cell_keep hW q0) (hrest.keep hW) hx0 hy0) hrest
      have HX0 := Lib.hid hx0
      clear hx0 q3
      go_wp2_with fail
      refine hI.mono ?_
      clear hI
      rintro e w3 ⟨n, rfl, HI, B3⟩
      have hi : (if n < 0 then (rest.length : Int) else n) = ((rest.takeWhile (sameK x)).length : Int) := by
        have h := idx_len HI.out
        simp only [Bool.not_not] at h
        exact h
      have HW := Lib.hid (take_while_len (sameK x) rest)
      have HPL := Lib.hid (show 0 < (rest.takeWhile (sameK x)).length by
        have h0 := HX0.out
        cases rest with
        | nil => cases h0
        | cons z s =>
          have : z = x := by simpa using h0
          subst this
          rw [List.takeWhile_cons, if_pos (show sameK z z = true from decide_eq_true rfl)]
          simp)
      replace C2 := C2.keep B3
      replace C3 := C3.keep B3
      replace H5 := H5.keep B3
      replace B := B.trans (B3.mono B.size)
      have hb3 : w1.heap.size ≤ w3.heap.size := Nat.le_trans hws B3.size
      clear q0 HI
      have facts : ∀ T : List RR, T = rest.takeWhile (sameK x) → Hid (0 < T.length ∧ T.length ≤ rest.length) ∧ Hid (rest.take T.length = T) ∧ Hid (∀ W, Agree X w W → IsRel W (.slice (some ⟨b, off, none⟩) T.length c') T) ∧ Hid (∀ W, Agree X w W → IsRel W (.slice (if c' = T.length then some ⟨b, off, none⟩ else some ⟨b, off + T.length * 2, none⟩) (rest.length - T.length) (c' - T.length)) (rest.drop T.length)) ∧ Hid (∀ z ∈ rest.drop T.length, z ∈ l) ∧ Hid ((L ++ [(⟨some ⟨b, off, none⟩, c', T⟩ : RN)]).length + (rest.drop T.length).length ≤ l.length) ∧ Hid ((L ++ [(⟨some ⟨b, off, none⟩, c', T⟩ : RN)]).map (·.rs) ++ runsL (rest.drop T.length) = runsL l) := fun T hT => by
        have h1 := HPL.out
        obtain ⟨h2, h3⟩ := HW.out
        rw [← hT] at h1 h2 h3
        have h4 : T.length ≤ rest.length := by
          have := congrArg List.length h2
          rw [List.length_take] at this
          omega
        refine ⟨Lib.hid ⟨h1, h4⟩, Lib.hid h2, Lib.hid fun W hW => ?_, Lib.hid fun W hW => (hR0 W hW).after h4, Lib.hid fun z hz => HMM.out z (List.mem_of_mem_drop hz), Lib.hid ?_, Lib.hid ?_⟩
        · have := (hR0 W hW).take h4
          rwa [h2] at this
        · rw [List.length_append, List.length_drop]; simp; omega
        · rw [h3, List.map_append, ← V.out, HRL.out, ← hT]; simp
      by_cases hn0 : n < 0
      · rw [if_pos hn0] at hi
        obtain ⟨T, hT⟩ : ∃ T, T = rest.takeWhile (sameK x) := ⟨_, rfl⟩
        rw [← hT] at hi
        obtain ⟨HTL, HTK, HRT, HRD, HMEM, HLN, VN⟩ := facts T hT
        have HI2 := Lib.hid hi
        clear facts hT hR0 hi
        have q0 := C2.at_ (j := 0) rfl
        go_upto_region 6 with fail
        rw [HI2.out]
        clear HI2
        have hT1 : (T.length : Int) ≤ (rest.length : Int) := by have := HTL.out; omega
        have hT2 : (rest.length : Int) ≤ (c' : Int) := by omega
        have hT3 : (T.length : Int) ≤ (c' : Int) := by omega
        have hmr : IsRows 1 encN (w3.alloc (.cells #[.slice (some ⟨b, off, none⟩) T.length c'] 23)) (.slice (some ⟨w3.heap.size, 0, none⟩) 1 1) [(⟨some ⟨b, off, none⟩, c', T⟩ : RN)] := IsRows.lit w3 [(⟨some ⟨b, off, none⟩, c', T⟩ : RN)] encsN (by simp)
        have bX := below_new w3 (.cells #[.slice (some ⟨b, off, none⟩) T.length c'] 23)
        have hmo : ∀ W, Below w3.heap.size w3 W → ∀ u ∈ [(⟨some ⟨b, off, none⟩, c', T⟩ : RN)], Off RunOk W (Ex (.slice p5 L.length c5) (fun k => k = b2)) u := fun W hW u hu => by
          rw [List.mem_singleton.1 hu]
          refine Off.old (w := w) (fun a b => runOk_keep a b _) (HRT.out w (Agree.refl _ _)) (B.trans (hW.mono B.size)) fun k hk => ?_
          rcases hk with hk | hk
          · have := (H5.1.lt k hk).1; have := HBL.out; omega
          · rw [hk]; exact Nat.le_of_eq HB2.out
        have q2 := (C2.keep bX).at_ (j := 0) rfl
        have q0 := C2.at_ (j := 0) rfl
        go_region_law
          (first
            | (refine step_hold (wr := w3) (v := .slice p5 L.length c5) fitsN encsN (by rfl) (.tmp 17) (.tmp 21) (by rfl) (by rfl) (by rfl) H5 (by first | exact bX | exact bX.drew | exact bX.drew.drew | exact bX.drew.drew.drew) (by exact hmr) (hmo _ (by first | exact bX | exact bX.drew | exact bX.drew.drew | exact bX.drew.drew.drew)) hb3 (by omega) (by simp) ?_; intro p9 c9 w9 H9 B9 hG9; rw [show (L ++ [(⟨some ⟨b, off, none⟩, c', T⟩ : RN)]).length = L.length + 1 from by simp] at H9; have hGG : (w3.alloc (.cells #[.slice (some ⟨b, off, none⟩) T.length c'] 23)).grownBy w9 (Value.slice p5 L.length c5).ownBlock := (by first | exact hG9 | exact grown_undrew hG9 | exact grown_undrew (grown_undrew hG9) | exact grown_undrew (grown_undrew (grown_undrew hG9))); have C9 : Cel w9 b2 23 [.slice (some ⟨b, off, none⟩) rest.length c'] := Cel.agree (C2.keep bX) (.of_grown (X := fun k => (Value.slice p5 L.length c5).ownBlock = some k) hGG fun k hk => hk) (fun e => by have := (H5.1.lt b2 e).1; omega); have y9 := C9.at_ (j := 0) rfl; have f9 := C9.free 0))
        all_goals
          generalize hsv : Value.slice (if c' = T.length then (some ⟨b, off, none⟩ : Option Addr) else some ⟨b, off + T.length * 2, none⟩) (rest.length - T.length) (c' - T.length) = sv
          have HN9 := H9.agree (((Agree.refl (fun k => k = b2) w9).setCell (p := ⟨b2, 0, none⟩) (.inl rfl) (.slice (if c' = T.length then some ⟨b, off, none⟩ else some ⟨b, off + T.length * 2, none⟩) (rest.length - T.length) (c' - T.length)))) (fun k hk => by have := hb2; omega)
          have CN9 := C9.set 0 (.slice (if c' = T.length then some ⟨b, off, none⟩ else some ⟨b, off + T.length * 2, none⟩) (rest.length - T.length) (c' - T.length))
          have C3N := Cel.agree (C3.keep bX) (.of_grown (X := fun k => (Value.slice p5 L.length c5).ownBlock = some k) hGG fun k hk => hk) (fun e => by have := (H5.1.lt b3 e).1; omega)
          have C3M := C3N.other (p := ⟨b2, 0, none⟩) (show b3 ≠ b2 by omega) (.slice (if c' = T.length then some ⟨b, off, none⟩ else some ⟨b, off + T.length * 2, none⟩) (rest.length - T.length) (c' - T.length))
          have BN9 : Below w.heap.size w (w9.setCell ⟨b2, 0, none⟩ (.slice (if c' = T.length then some ⟨b, off, none⟩ else some ⟨b, off + T.length * 2, none⟩) (rest.length - T.length) (c' - T.length))) := (B.trans (B9.mono HBL.out)).setCell (p := ⟨b2, 0, none⟩) (Nat.le_of_eq HB2.out) _
          have HS9 := Lib.hid (show w1.heap.size ≤ (w9.setCell ⟨b2, 0, none⟩ (.slice (if c' = T.length then some ⟨b, off, none⟩ else some ⟨b, off + T.length * 2, none⟩) (rest.length - T.length) (c' - T.length))).heap.size by rw [show (w9.setCell ⟨b2, 0, none⟩ (.slice (if c' = T.length then some ⟨b, off, none⟩ else some ⟨b, off + T.length * 2, none⟩) (rest.length - T.length) (c' - T.length))).heap.size = w9.heap.size by simp [World.setCell]]; exact Nat.le_trans hb3 B9.size)
          clear q0 q2 y9 f9 C9 C3N H9 hG9 hGG
          go_wp2
          go_roundg (rest.drop T.length).length
          case measure => have := HTL.out; rw [List.length_drop]; omega
          case rel => subst hsv; exact ⟨_, _, _, rest.drop T.length, L ++ [(⟨some ⟨b, off, none⟩, c', T⟩ : RN)], Nat.le_refl _, CN9, C3M, HRD.out, fun r hr W hW => by
            rcases List.mem_append.1 hr with hr | hr
            · exact HRUNS.out r hr W hW
            · rw [List.mem_singleton.1 hr]; exact HRT.out W hW, HMEM.out, HN9, HLN.out, VN, BN9, by have := HS9.out; exact this⟩
      · rw [if_neg hn0] at hi
        obtain ⟨T, hT⟩ : ∃ T, T = rest.takeWhile (sameK x) := ⟨_, rfl⟩
        rw [← hT] at hi
        subst hi
        obtain ⟨HTL, HTK, HRT, HRD, HMEM, HLN, VN⟩ := facts T hT
        clear facts hT hR0
        have hT1 : (T.length : Int) ≤ (rest.length : Int) := by have := HTL.out; omega
        have hT2 : (rest.length : Int) ≤ (c' : Int) := by omega
        have hT3 : (T.length : Int) ≤ (c' : Int) := by omega
        have hmr : IsRows 1 encN (w3.alloc (.cells #[.slice (some ⟨b, off, none⟩) T.length c'] 23)) (.slice (some ⟨w3.heap.size, 0, none⟩) 1 1) [(⟨some ⟨b, off, none⟩, c', T⟩ : RN)] := IsRows.lit w3 [(⟨some ⟨b, off, none⟩, c', T⟩ : RN)] encsN (by simp)
        have bX := below_new w3 (.cells #[.slice (some ⟨b, off, none⟩) T.length c'] 23)
        have hmo : ∀ W, Below w3.heap.size w3 W → ∀ u ∈ [(⟨some ⟨b, off, none⟩, c', T⟩ : RN)], Off RunOk W (Ex (.slice p5 L.length c5) (fun k => k = b2)) u := fun W hW u hu => by
          rw [List.mem_singleton.1 hu]
          refine Off.old (w := w) (fun a b => runOk_keep a b _) (HRT.out w (Agree.refl _ _)) (B.trans (hW.mono B.size)) fun k hk => ?_
          rcases hk with hk | hk
          · have := (H5.1.lt k hk).1; have := HBL.out; omega
          · rw [hk]; exact Nat.le_of_eq HB2.out
        have q2 := (C2.keep bX).at_ (j := 0) rfl
        have q0 := C2.at_ (j := 0) rfl
        go_wp2
        go_region_law
          (first
            | (refine step_hold (wr := w3) (v := .slice p5 L.length c5) fitsN encsN (by rfl) (.tmp 17) (.tmp 21) (by rfl) (by rfl) (by rfl) H5 (by first | exact bX | exact bX.drew | exact bX.drew.drew | exact bX.drew.drew.drew) (by exact hmr) (hmo _ (by first | exact bX | exact bX.drew | exact bX.drew.drew | exact bX.drew.drew.drew)) hb3 (by omega) (by simp) ?_; intro p9 c9 w9 H9 B9 hG9; rw [show (L ++ [(⟨some ⟨b, off, none⟩, c', T⟩ : RN)]).length = L.length + 1 from by simp] at H9; have hGG : (w3.alloc (.cells #[.slice (some ⟨b, off, none⟩) T.length c'] 23)).grownBy w9 (Value.slice p5 L.length c5).ownBlock := (by first | exact hG9 | exact grown_undrew hG9 | exact grown_undrew (grown_undrew hG9) | exact grown_undrew (grown_undrew (grown_undrew hG9))); have C9 : Cel w9 b2 23 [.slice (some ⟨b, off, none⟩) rest.length c'] := Cel.agree (C2.keep bX) (.of_grown (X := fun k => (Value.slice p5 L.length c5).ownBlock = some k) hGG fun k hk => hk) (fun e => by have := (H5.1.lt b2 e).1; omega); have y9 := C9.at_ (j := 0) rfl; have f9 := C9.free 0))
        all_goals
          generalize hsv : Value.slice (if c' = T.length then (some ⟨b, off, none⟩ : Option Addr) else some ⟨b, off + T.length * 2, none⟩) (rest.length - T.length) (c' - T.length) = sv
          have HN9 := H9.agree (((Agree.refl (fun k => k = b2) w9).setCell (p := ⟨b2, 0, none⟩) (.inl rfl) (.slice (if c' = T.length then some ⟨b, off, none⟩ else some ⟨b, off + T.length * 2, none⟩) (rest.length - T.length) (c' - T.length)))) (fun k hk => by have := hb2; omega)
          have CN9 := C9.set 0 (.slice (if c' = T.length then some ⟨b, off, none⟩ else some ⟨b, off + T.length * 2, none⟩) (rest.length - T.length) (c' - T.length))
          have C3N := Cel.agree (C3.keep bX) (.of_grown (X := fun k => (Value.slice p5 L.length c5).ownBlock = some k) hGG fun k hk => hk) (fun e => by have := (H5.1.lt b3 e).1; omega)
          have C3M := C3N.other (p := ⟨b2, 0, none⟩) (show b3 ≠ b2 by omega) (.slice (if c' = T.length then some ⟨b, off, none⟩ else some ⟨b, off + T.length * 2, none⟩) (rest.length - T.length) (c' - T.length))
          have BN9 : Below w.heap.size w (w9.setCell ⟨b2, 0, none⟩ (.slice (if c' = T.length then some ⟨b, off, none⟩ else some ⟨b, off + T.length * 2, none⟩) (rest.length - T.length) (c' - T.length))) := (B.trans (B9.mono HBL.out)).setCell (p := ⟨b2, 0, none⟩) (Nat.le_of_eq HB2.out) _
          have HS9 := Lib.hid (show w1.heap.size ≤ (w9.setCell ⟨b2, 0, none⟩ (.slice (if c' = T.length then some ⟨b, off, none⟩ else some ⟨b, off + T.length * 2, none⟩) (rest.length - T.length) (c' - T.length))).heap.size by rw [show (w9.setCell ⟨b2, 0, none⟩ (.slice (if c' = T.length then some ⟨b, off, none⟩ else some ⟨b, off + T.length * 2, none⟩) (rest.length - T.length) (c' - T.length))).heap.size = w9.heap.size by simp [World.setCell]]; exact Nat.le_trans hb3 B9.size)
          clear q0 q2 y9 f9 C9 C3N H9 hG9 hGG
          go_wp2
          go_roundg (rest.drop T.length).length
          case measure => have := HTL.out; rw [List.length_drop]; omega
          case rel => subst hsv; exact ⟨_, _, _, rest.drop T.length, L ++ [(⟨some ⟨b, off, none⟩, c', T⟩ : RN)], Nat.le_refl _, CN9, C3M, HRD.out, fun r hr W hW => by
            rcases List.mem_append.1 hr with hr | hr
            · exact HRUNS.out r hr W hW
            · rw [List.mem_singleton.1 hr]; exact HRT.out W hW, HMEM.out, HN9, HLN.out, VN, BN9, by have := HS9.out; exact this⟩
end Go.Proofs.YtdibijhaiaiifaaDoor
/- What build computes, and its walk. -/
namespace Go.Proofs.YtdibijhaiaiifaaDoor
open Go.RowKit
def sameW (x y : Rw) : Bool := decide (fst? y.1 = fst? x.1)
theorem dropW_lt {x : Rw} {r : List Rw} : ((x :: r).dropWhile (sameW x)).length < (x :: r).length := by
  have h : sameW x x = true := by unfold sameW; exact decide_eq_true rfl
  rw [List.dropWhile_cons, if_pos h]
  have := dw_le (sameW x) r
  simp; omega
def runsW : List Rw → List (List Rw)
  | [] => []
  | x :: r => (x :: r).takeWhile (sameW x) :: runsW ((x :: r).dropWhile (sameW x))
termination_by l => l.length
decreasing_by exact dropW_lt
theorem runsW_nil : runsW [] = [] := by rw [runsW]
theorem runsW_cons (x : Rw) (r : List Rw) : runsW (x :: r) = (x :: r).takeWhile (sameW x) :: runsW ((x :: r).dropWhile (sameW x)) := by rw [runsW]
theorem tw_map {α β : Type} (f : α → β) (p : β → Bool) : ∀ l : List α, (l.map f).takeWhile p = (l.takeWhile fun x => p (f x)).map f ∧ (l.map f).dropWhile p = (l.dropWhile fun x => p (f x)).map f
  | [] => ⟨rfl, rfl⟩
  | x :: l => by
    obtain ⟨h1, h2⟩ := tw_map f p l
    rw [List.map_cons, List.takeWhile_cons, List.dropWhile_cons, List.takeWhile_cons, List.dropWhile_cons]
    cases h : p (f x) with
    | false => exact ⟨rfl, rfl⟩
    | true => simp only [if_true, List.map_cons]; exact ⟨by rw [h1], h2⟩
theorem runs_rows : ∀ (n : Nat) (l : List RR), l.length ≤ n → (runsL l).map rows = runsW (rows l)
  | _, [], _ => by rw [runsL]; show [] = runsW []; rw [runsW_nil]
  | 0, x :: r, h => by simp at h
  | n + 1, x :: r, h => by
    rw [runsL_cons, List.map_cons, runs_rows n _ (by have := drop_while_lt (x := x) (r := r); omega)]
    show _ = runsW (x.rw :: rows r)
    rw [runsW_cons]
    have h1 := tw_map RR.rw (sameW x.rw) (x :: r)
    rw [show (x :: r).map RR.rw = x.rw :: rows r from rfl] at h1
    rw [h1.1, h1.2]; rfl
def headV (run : List Rw) : Vl := ((run.head?.bind fun x => fst? x.1)).getD zeroVl
def tailW (x : Rw) : Rw := (x.1.drop 1, x.2)
def lastS (rs : List Rw) : List Sp := match rs.getLast? with | some x => x.2 | none => []
/-- The trie of sorted rows. -/
def buildT : Nat → List Rw → Tr
  | 0, rs => .mk [] [] (lastS rs)
  | n + 1, rs => .mk ((runsW rs).map headV) ((runsW rs).map fun run => buildT n (run.map tailW)) []
theorem lastS_snoc (a : List Rw) (x : Rw) : lastS (a ++ [x]) = x.2 := by unfold lastS; rw [List.getLast?_append]; simp
/-- A row without its first value. -/
def tailR (x : RR) : RR := ⟨match x.pa with | some a => if x.ca = 1 then some a else some ⟨a.block, a.off + 3, a.spot⟩ | none => none, x.ca - 1, x.t.drop 1, x.pw, x.cw, x.s⟩
theorem tailR_rw (x : RR) : (tailR x).rw = tailW x.rw := rfl
theorem tailR_ok {W : World} {x : RR} (h : RowOk W x) (hl : 0 < x.t.length) : RowOk W (tailR x) := by
  refine ⟨?_, h.2⟩
  obtain ⟨a, c', e, hr, h1, h2, h3⟩ := id h.1
  injection e with e1 e2 e3
  obtain ⟨y, hy⟩ : ∃ y, x.t[0]? = some y := ⟨_, List.getElem?_eq_getElem hl⟩
  obtain ⟨b, off, hp, -⟩ := vals_at' h.1 hy
  unfold tailR RR.av
  simp only [hp]
  by_cases hc : x.ca = 1
  · rw [if_pos hc, List.length_drop, show x.t.length - 1 = 0 by omega]
    have hn : x.t.drop 1 = [] := List.drop_eq_nil_of_le (by omega)
    rw [hn]
    exact ⟨_, _, rfl, .inl rfl, by simp, by simp, by omega⟩
  · rw [if_neg hc, List.length_drop]
    have hv : IsRows 3 encVl W (.slice (some ⟨b, off, none⟩) x.t.length x.ca) x.t := by rw [← hp]; exact h.1
    have := IsRows.drop hv (m := 1) (by omega)
    rw [Nat.one_mul] at this
    exact this
theorem trOk_keep : ∀ w w' : World, ∀ t : TR, Below w.heap.size w w' → TrOk w t → TrOk w' t := fun _ _ _ h k => k.keep h
set_option maxHeartbeats 4000000 in
set_option maxRecDepth 1000000 in
theorem build_zero (X : Nat → Prop) (p : Option Addr) (c : Nat) (l : List RR) (w : World) (hl : ∀ W, Agree X w W → IsRel W (.slice p l.length c) l) (hln : l.length ≤ 100000) :
    Calls Tryd.prog 106 #[.int .i64 0, .slice p l.length c] w fun e w' => ∃ t : TR, e = .returned (trV t) ∧ (∀ W, Agree X w' W → TrOk W t) ∧ Hid (t.tr = buildT 0 (rows l)) ∧ Below w.heap.size w w' := by
  obtain ⟨w1, hw1⟩ : ∃ z, (w.alloc (.cells #[.slice none 0 0, .slice none 0 0, .slice none 0 0] 64)).alloc (.cells #[.slice none 0 0, .slice none 0 0, .slice none 0 0] 64) = z := ⟨_, rfl⟩
  have B1 : Below w.heap.size w w1 := by rw [← hw1]; exact below_alloc' (below_new _ _)
  have X4 : Cel w1 w.heap.size 64 [.slice none 0 0, .slice none 0 0, .slice none 0 0] := by rw [← hw1]; exact (Cel.new w 64 _).keep (below_new _ _)
  have X5 : Cel w1 (w.heap.size + 1) 64 [.slice none 0 0, .slice none 0 0, .slice none 0 0] := by
    have := Cel.new (w.alloc (.cells #[.slice none 0 0, .slice none 0 0, .slice none 0 0] 64)) 64 [.slice none 0 0, .slice none 0 0, .slice none 0 0]
    rw [World.size_alloc, hw1] at this
    exact this
  go_enter Tryd.func106, Tryd.ntmps106
  go_upto_region 2 with fail
  clear hw1
  obtain ⟨b4, hb4e⟩ : ∃ b, w.heap.size = b := ⟨_, rfl⟩
  obtain ⟨b5, hb5e⟩ : ∃ b, b4 + 1 = b := ⟨_, rfl⟩
  rw [hb4e, hb5e] at X5
  rw [hb4e] at X4
  rw [hb4e]
  rw [hb5e]
  have HB4 := Lib.hid hb4e
  have h54 : b4 ≠ b5 := by omega
  have h5w : w.heap.size ≤ b5 := by omega
  have h4w : w.heap.size ≤ b4 := by omega
  clear hb4e hb5e
  go_wp2
  go_loopg [16] l.length (fun g vi wr => ∃ (i : Nat) (pw : Option Addr) (cw : Nat) (s : List Sp), vi = .int .i64 i ∧ i ≤ l.length ∧ l.length - i ≤ g ∧ Cel wr b4 64 [.slice none 0 0, .slice none 0 0, .slice none 0 0] ∧ Cel wr b5 64 [.slice none 0 0, .slice none 0 0, .slice pw s.length cw] ∧ (∀ W, Agree X w W → IsSpans W (.slice pw s.length cw) s) ∧ Hid (lastS (rows (l.take i)) = s) ∧ Below w.heap.size w wr)
  case atStart => exact ⟨0, none, 0, [], rfl, Nat.zero_le _, Nat.le_refl _, X4, X5, fun W _ => IsSpans.nil W, Lib.hid (by simp [rows, lastS]), B1⟩
  case round =>
    obtain ⟨i, pw, cw, s, rfl, hi, hg, C4, C5, hs, V, B⟩ := hrel
    by_cases hlt : i < l.length
    · have hltz : (i : Int) < (l.length : Int) := by omega
      obtain ⟨x, hx⟩ := getElem_of_lt hlt
      obtain ⟨bb, off, e, c0, c1, rx⟩ := (hl wr (.of_below B)).at_ hx
      cases e
      have HRX := Lib.hid (show ∀ W, Agree X w W → IsSpans W x.wv x.s from fun W hW => ((hl W hW).2 x (List.mem_of_getElem? hx)).2)
      have VN := Lib.hid (show lastS (rows (l.take (i + 1))) = x.s by rw [take_succ' hx, rows_append]; exact lastS_snoc _ _)
      have f5 := C5.free 2
      have y5 := C5.at_ (j := 2) rfl
      have BA := below_new wr (.cells #[x.av, x.wv] 44)
      have XA := Cel.new wr 44 [x.av, x.wv]
      have qa := XA.at_ (j := 1) rfl
      have y5' := (C5.keep BA).at_ (j := 2) rfl
      have f5' := (C5.keep BA).free 2
      have C5n := (C5.keep BA).set 2 x.wv
      have C4n := (C4.keep BA).other (p := ⟨b5, 2, none⟩) h54 x.wv
      have Bn := (B.trans (BA.mono B.size)).setCell (p := ⟨b5, 2, none⟩) h5w x.wv
      clear hx rx
      go_wp2
      go_roundg (l.length - (i + 1))
      case measure => omega
      case rel => exact ⟨i + 1, x.pw, x.cw, x.s, by go_num, hlt, Nat.le_refl _, C4n, C5n, HRX.out, VN, Bn⟩
    · have hltz : ¬ (i : Int) < (l.length : Int) := by omega
      have RES := Lib.hid (show lastS (rows l) = s by have := V.out; rwa [List.take_of_length_le (by omega)] at this)
      have y0 := C5.at_ (j := 0) rfl
      have y1 := C5.at_ (j := 1) rfl
      have y2 := C5.at_ (j := 2) rfl
      have x0 := C4.at_ (j := 0) rfl
      have x1 := C4.at_ (j := 1) rfl
      have x2 := C4.at_ (j := 2) rfl
      have f0 := C4.free 0
      have f1 := C4.free 1
      have f2 := C4.free 2
      have Z := ((C4.set 0 (.slice none 0 0)).set 1 (.slice none 0 0)).set 2 (.slice pw s.length cw)
      have z0 := Z.at_ (j := 0) rfl
      have z1 := Z.at_ (j := 1) rfl
      have z2 := Z.at_ (j := 2) rfl
      have BZ := ((B.setCell (p := ⟨b4, 0, none⟩) h4w (.slice none 0 0)).setCell (p := ⟨b4, 1, none⟩) h4w (.slice none 0 0)).setCell (p := ⟨b4, 2, none⟩) h4w (.slice pw s.length cw)
      obtain ⟨wZ, hwZ⟩ : ∃ z, ((wr.setCell ⟨b4, 0, none⟩ (.slice none 0 0)).setCell ⟨b4, 1, none⟩ (.slice none 0 0)).setCell ⟨b4, 2, none⟩ (.slice pw s.length cw) = z := ⟨_, rfl⟩
      rw [hwZ] at z0 z1 z2 BZ
      clear Z
      go_wp2
      try rw [hwZ]
      refine bodyPost_ret (v := .agg #[.slice none 0 0, .slice none 0 0, .slice pw s.length cw]) (by simp [results, Tryd.results106, go_sem, z0, z1, z2]) rfl ?_
      refine ⟨.mk none 0 [] none 0 [] pw cw s, rfl, fun W hW => .mk _ (IsVals.nil W) ⟨none, 0, rfl, .inl rfl, by simp [TR.ks], by simp [TR.ks], by simp⟩ (hs W ((Agree.of_below BZ).trans hW)) (by intro k hk; cases hk), Lib.hid ?_, BZ⟩
      show Tr.mk [] [] s = Tr.mk [] [] (lastS (rows l))
      rw [RES.out]
end Go.Proofs.YtdibijhaiaiifaaDoor
/- The walk of build: the cells of a row of one's own, the loop that strikes the first values. -/
namespace Go.Proofs.YtdibijhaiaiifaaDoor
open Go.RowKit
theorem flat_set1 : ∀ (d : List RR) (i : Nat) (x y : RR), d[i]? = some x → y.wv = x.wv → (d.flatMap encR).set (i * 2) y.av = (d.set i y).flatMap encR
  | [], i, x, y, h, _ => by simp at h
  | z :: d, 0, x, y, h, hw => by
    have e : z = x := by simpa using h
    subst e
    simp [encR, hw]
  | z :: d, i + 1, x, y, h, hw => by
    rw [List.set_cons_succ, List.flatMap_cons, List.flatMap_cons, ← flat_set1 d i x y (by simpa using h) hw]
    show (([z.av, z.wv] : List Value) ++ d.flatMap encR).set _ _ = [z.av, z.wv] ++ _
    rw [show (i + 1) * 2 = i * 2 + 1 + 1 by omega]
    rfl
theorem Owns.put1 {w : World} {base G n c : Nat} {d : List RR} {x y : RR} {i : Nat} (h : Owns 2 44 encR w base (.slice (some ⟨G, 0, none⟩) n c) d) (hi : d[i]? = some x) (hw : y.wv = x.wv) :
    Owns 2 44 encR (w.setCell ⟨G, i * 2, none⟩ y.av) base (.slice (some ⟨G, 0, none⟩) n c) (d.set i y) := by
  have hil := (List.getElem?_eq_some_iff.1 hi).1
  obtain ⟨G', cur, e, hn, h1, h2, h3, h4, h5, h6⟩ := h.open2 (by omega)
  injection e with e
  injection e with e
  subst e
  subst hn
  have a1 := heap_setCell_same w G (i * 2) cur 44 y.av h2
  refine ⟨flat_len _ fun x _ => encsR.len x, .inr ⟨G, c, _, by rw [List.length_set], h1, a1, by rw [List.length_set]; exact h3, h4, by simpa using h5, ?_⟩⟩
  rw [List.length_set, Array.toList_setIfInBounds, List.take_set, h6]
  exact flat_set1 d i x y hi hw
/-- The rows before k are struck. -/
structure Struck (T : List RR) (k : Nat) (d : List RR) : Prop where
  len : d.length = T.length
  done : d.take k = (T.take k).map tailR
  rest : d.drop k = T.drop k
theorem Struck.start (T : List RR) : Struck T 0 T := ⟨rfl, by simp, rfl⟩
theorem Struck.get {T d : List RR} {k : Nat} {x : RR} (h : Struck T k d) (hx : T[k]? = some x) : d[k]? = some x := by
  have h1 := congrArg (fun l => l[0]?) h.rest
  simp only [List.getElem?_drop, Nat.add_zero] at h1
  rw [h1, hx]
theorem Struck.step {T d : List RR} {k : Nat} {x : RR} (h : Struck T k d) (hd : d[k]? = some x) : Struck T (k + 1) (d.set k (tailR x)) := by
  have hk := (List.getElem?_eq_some_iff.1 hd).1
  have hl := h.len
  have hx : T[k]? = some x := by
    have h1 := congrArg (fun l => l[0]?) h.rest
    simp only [List.getElem?_drop, Nat.add_zero] at h1
    rw [← h1, hd]
  refine ⟨by rw [List.length_set]; exact h.len, ?_, ?_⟩
  · rw [take_succ' hx, List.map_append, ← h.done, List.take_succ_eq_append_getElem (by rw [List.length_set]; omega), List.take_set_of_le (by omega)]
    simp
  · rw [List.drop_set_of_lt (by omega)]
    have h1 := congrArg (fun l => l.drop 1) h.rest
    simpa [List.drop_drop] using h1
theorem Struck.whole {T d : List RR} {k : Nat} (h : Struck T k d) (hk : T.length = k) : d = T.map tailR := by
  have h1 := h.done
  rwa [List.take_of_length_le (by have := h.len; omega), List.take_of_length_le (by omega)] at h1
def BuildR (X : Nat → Prop) (n : Nat) (l : List RR) (w : World) (e : Ending) (w' : World) : Prop := ∃ t : TR, e = .returned (trV t) ∧ (∀ W, Agree X w' W → TrOk W t) ∧ Hid (t.tr = buildT n (rows l)) ∧ Below w.heap.size w w'
def BuildC (n : Nat) : Prop := ∀ (X : Nat → Prop) (p : Option Addr) (c : Nat) (l : List RR) (w : World), (∀ k, X k → k < w.heap.size) → (∀ W, Agree X w W → IsRel W (.slice p l.length c) l) → (∀ x ∈ l, x.t.length = n) → l.length ≤ 100000 → Calls Tryd.prog 106 #[.int .i64 n, .slice p l.length c] w (BuildR X n l w)
/-- The blocks that the loop of build writes, and X. -/
def X3 (X : Nat → Prop) (b4 b5 : Nat) (u v : Value) : Nat → Prop := fun k => X k ∨ k = b4 ∨ k = b5 ∨ u.ownBlock = some k ∨ v.ownBlock = some k
/-- What the loop of build has made. -/
structure BldI (X : Nat → Prop) (b4 b5 base : Nat) (w : World) (u : Value) (vs : List Vl) (v : Value) (ks : List TR) : Prop where
  c4 : Cel w b4 64 [.slice none 0 0, .slice none 0 0, .slice none 0 0]
  c5 : Cel w b5 64 [u, v, .slice none 0 0]
  ou : Owns 3 58 encVl w base u vs
  ov : Owns 3 64 encK w base v ks
  dis : ∀ k, u.ownBlock = some k → v.ownBlock ≠ some k
  kid : ∀ t ∈ ks, Off TrOk w (X3 X b4 b5 u v) t
section
variable {X : Nat → Prop} {b4 b5 base : Nat} {w wm w' : World} {u v u' v' : Value} {vs m : List Vl} {ks r : List TR}
theorem BldI.keep (h : BldI X b4 b5 base w u vs v ks) (hb : Below w.heap.size w w') : BldI X b4 b5 base w' u vs v ks := ⟨h.c4.keep hb, h.c5.keep hb, h.ou.keep hb, h.ov.keep hb, h.dis, fun t ht => (h.kid t ht).keep hb⟩
/-- The values grow. -/
theorem BldI.val (h : BldI X b4 b5 base w u vs v ks) (h4 : b4 < base) (h5 : b5 < base) (h45 : b4 ≠ b5) (hb : Below w.heap.size w wm) (hO : Owns 3 58 encVl w' base u' (vs ++ m)) (hg : wm.grownBy w' u.ownBlock) (hu : u'.ownBlock = u.ownBlock ∨ u'.ownBlock = some wm.heap.size) : Cel w' b5 64 [u, v, .slice none 0 0] ∧ BldI X b4 b5 base (w'.setCell ⟨b5, 0, none⟩ u') u' (vs ++ m) v ks := by
  have hm := h.keep hb
  have hA : Agree (fun k => u.ownBlock = some k) wm w' := .of_grown hg fun _ hk => hk
  have c5' : Cel w' b5 64 [u, v, .slice none 0 0] := hm.c5.agree hA fun e => by have := (h.ou.lt b5 e).1; omega
  have c4' : Cel w' b4 64 [.slice none 0 0, .slice none 0 0, .slice none 0 0] := hm.c4.agree hA fun e => by have := (h.ou.lt b4 e).1; omega
  have hA2 : Agree (X3 X b4 b5 u v) wm (w'.setCell ⟨b5, 0, none⟩ u') := (hA.mono fun k hk => .inr (.inr (.inr (.inl hk)))).set (.inr (.inr (.inl rfl)))
  have hn : ∀ k, X3 X b4 b5 u' v k → X3 X b4 b5 u v k ∨ wm.heap.size ≤ k := fun k hk => by
    rcases hk with hk | hk | hk | hk | hk
    · exact .inl (.inl hk)
    · exact .inl (.inr (.inl hk))
    · exact .inl (.inr (.inr (.inl hk)))
    · rcases hu with e | e
      · exact .inl (.inr (.inr (.inr (.inl (by rw [← e]; exact hk)))))
      · rw [e] at hk; injection hk with hk; exact .inr (by omega)
    · exact .inl (.inr (.inr (.inr (.inr hk))))
  refine ⟨c5', c4'.other (p := ⟨b5, 0, none⟩) h45 u', c5'.set 0 u', hO.set (p := ⟨b5, 0, none⟩) h5 u', ?_, fun k h1 h2 => ?_, fun t ht => Off.next (fun a b => trOk_keep a b t) (hm.kid t ht) hA2 hn⟩
  · refine Owns.set (p := ⟨b5, 0, none⟩) ?_ h5 u'
    refine hm.ov.kept hg ?_
    cases e : v.ownBlock with
    | none => exact .inl rfl
    | some g => exact .inr fun e' => h.dis g e'.symm e
  · rcases hu with e | e
    · exact h.dis k (by rw [← e]; exact h1) h2
    · rw [e] at h1; injection h1 with h1
      have := (hm.ov.lt k h2).2
      omega
/-- The tries grow. -/
theorem BldI.trie (h : BldI X b4 b5 base w u vs v ks) (h4 : b4 < base) (h5 : b5 < base) (h45 : b4 ≠ b5) (hb : Below w.heap.size w wm) (hO : Owns 3 64 encK w' base v' (ks ++ r)) (hg : wm.grownBy w' v.ownBlock) (hv : v'.ownBlock = v.ownBlock ∨ v'.ownBlock = some wm.heap.size) (hr : ∀ t ∈ r, Off TrOk wm (X3 X b4 b5 u v) t) : Cel w' b5 64 [u, v, .slice none 0 0] ∧ BldI X b4 b5 base (w'.setCell ⟨b5, 1, none⟩ v') u vs v' (ks ++ r) := by
  have hm := h.keep hb
  have hA : Agree (fun k => v.ownBlock = some k) wm w' := .of_grown hg fun _ hk => hk
  have c5' : Cel w' b5 64 [u, v, .slice none 0 0] := hm.c5.agree hA fun e => by have := (h.ov.lt b5 e).1; omega
  have c4' : Cel w' b4 64 [.slice none 0 0, .slice none 0 0, .slice none 0 0] := hm.c4.agree hA fun e => by have := (h.ov.lt b4 e).1; omega
  have hA2 : Agree (X3 X b4 b5 u v) wm (w'.setCell ⟨b5, 1, none⟩ v') := (hA.mono fun k hk => .inr (.inr (.inr (.inr hk)))).set (.inr (.inr (.inl rfl)))
  have hn : ∀ k, X3 X b4 b5 u v' k → X3 X b4 b5 u v k ∨ wm.heap.size ≤ k := fun k hk => by
    rcases hk with hk | hk | hk | hk | hk
    · exact .inl (.inl hk)
    · exact .inl (.inr (.inl hk))
    · exact .inl (.inr (.inr (.inl hk)))
    · exact .inl (.inr (.inr (.inr (.inl hk))))
    · rcases hv with e | e
      · exact .inl (.inr (.inr (.inr (.inr (by rw [← e]; exact hk)))))
      · rw [e] at hk; injection hk with hk; exact .inr (by omega)
  refine ⟨c5', c4'.other (p := ⟨b5, 1, none⟩) h45 v', c5'.set 1 v', ?_, hO.set (p := ⟨b5, 1, none⟩) h5 v', fun k h1 h2 => ?_, fun t ht => Off.next (fun a b => trOk_keep a b t) ?_ hA2 hn⟩
  · refine Owns.set (p := ⟨b5, 1, none⟩) ?_ h5 v'
    refine hm.ou.kept hg ?_
    cases e : u.ownBlock with
    | none => exact .inl rfl
    | some g => exact .inr fun e' => h.dis g e e'.symm
  · rcases hv with e | e
    · exact h.dis k h1 (by rw [← e]; exact h2)
    · rw [e] at h2; injection h2 with h2
      have := (hm.ou.lt k h1).2
      omega
  · rcases List.mem_append.1 ht with ht | ht
    · exact hm.kid t ht
    · exact hr t ht
end
end Go.Proofs.YtdibijhaiaiifaaDoor
/- The walks of empty, of the standard library's Search and of Seek. -/
namespace Go.Proofs.YtdibijhaiaiifaaDoor
open Go.RowKit
/-- Where a search over n places stops. -/
def SrchOf (P : Nat → Bool) (n r : Nat) : Prop := r ≤ n ∧ (∀ k, r = k + 1 → P k = false) ∧ (r < n → P r = true)
/-- Whether the i-th value is at least y. -/
def seekP (vs : List Vl) (y : Vl) (i : Nat) : Bool := (vs[i]?.map fun x => decide (0 ≤ cmpV x y)).getD true
set_option maxHeartbeats 4000000 in
set_option maxRecDepth 1000000 in
theorem empty_any (t : TR) (w : World) (hl : t.vs.length + t.s.length ≤ 1000000000) : Calls Tryd.prog 109 #[trV t] w fun e w' => e = .returned (.bool (decide (t.vs.length + t.s.length = 0))) ∧ Below w.heap.size w w' := by
  unfold trV
  have BA := below_new w (.cells #[t.vv, t.kv, t.wv] 64)
  have X := Cel.new w 64 [t.vv, t.kv, t.wv]
  have q0 := X.at_ (j := 0) rfl
  have q2 := X.at_ (j := 2) rfl
  obtain ⟨wA, hwA⟩ : ∃ z, w.alloc (.cells #[t.vv, t.kv, t.wv] 64) = z := ⟨_, rfl⟩
  rw [hwA] at q0 q2 BA
  obtain ⟨a, ha⟩ : ∃ a, t.vs.length = a := ⟨_, rfl⟩
  obtain ⟨b, hb⟩ : ∃ b, t.s.length = b := ⟨_, rfl⟩
  unfold TR.vv at q0
  unfold TR.wv at q2
  rw [ha, hb]
  rw [ha] at q0 hl
  rw [hb] at q2 hl
  obtain ⟨q, hq⟩ : ∃ q, decide (a + b = 0) = q := ⟨_, rfl⟩
  have hq1 : (((a : Int) + (b : Int)) == 0) = q := by rw [← hq, Bool.eq_iff_iff]; simp; omega
  rw [hq]
  clear hq ha hb
  go_enter Tryd.func109, Tryd.ntmps109
  go_upto_region 1 with fail
  clear hwA X
  go_wp2
  go_ret
  exact ⟨rfl, BA⟩
set_option maxHeartbeats 4000000 in
set_option maxRecDepth 1000000 in
theorem seek1_any (b2 b3 : Nat) (pv : Option Addr) (n cv : Nat) (l : List Vl) (x y : Vl) (i : Nat) (w : World) (h2 : w.cell? ⟨b2, 0, none⟩ = some (.slice pv n cv)) (hl : IsVals w (.slice pv n cv) l) (hx : l[i]? = some x)
    (g0 : w.cell? ⟨b3, 0, none⟩ = some (.int .i64 y.t)) (g1 : w.cell? ⟨b3, 1, none⟩ = some (.int .i64 y.n)) (g2 : w.cell? ⟨b3, 2, none⟩ = some (strV y.s)) :
    Calls Tryd.prog 108 #[.int .i64 i, .pointer (some ⟨b2, 0, none⟩), .pointer (some ⟨b3, 0, none⟩)] w fun e w' => e = .returned (.bool (decide (0 ≤ cmpV x y))) ∧ Below w.heap.size w w' := by
  obtain ⟨b, off, hp, d0, d1, d2⟩ := vals_at' hl hx
  subst hp
  have hi : (i : Int) < (n : Int) := by
    obtain ⟨_, _, e, -⟩ := hl
    injection e with e1 e2 e3
    have := (List.getElem?_eq_some_iff.1 hx).1
    omega
  clear hl hx
  obtain ⟨r, hr⟩ : ∃ r, cmpV x y = r := ⟨_, rfl⟩
  have HR := Lib.hid hr
  rw [hr]
  clear hr
  have hC : ∀ p : AftB w, Calls Tryd.prog 67 #[.agg #[.int .i64 x.t, .int .i64 x.n, strV x.s], .agg #[.int .i64 y.t, .int .i64 y.n, strV y.s]] p.w' fun e w'' => e = .returned (.int .i64 r) ∧ ∃ q : AftB w, w'' = q.w' := fun p => AftB.call (by rw [← HR.out]; exact (Compare_any x y p.w').mono fun e w' h => ⟨h.1, h.2.below⟩)
  unfold strV at hC d2 g2
  go_enter Tryd.func108, Tryd.ntmps108
  go_upto_region 1 with fail
  have a0 := AftB.cell d0
  have a1 := AftB.cell d1
  have a2 := AftB.cell d2
  have a3 := AftB.cell g0
  have a4 := AftB.cell g1
  have a5 := AftB.cell g2
  have a6 := AftB.cell h2
  clear h2 g0 g1 g2 d0 d1 d2
  refine wp_region_aftB (by kernel_rfl) (by kernel_rfl) ?_
  repeat (go_big_quiet_step ((exact hC _)))
  refine wpQuiet_nil ?_
  intro w5 B5
  clear a0 a1 a2 a3 a4 a5 a6
  go_wp2
  go_ret
  exact ⟨rfl, B5⟩
set_option maxHeartbeats 4000000 in
set_option maxRecDepth 1000000 in
theorem search_any (g : FuncId) (p2 p3 : Addr) (P : Nat → Bool) (n : Nat) (w : World) (hn : n ≤ 1000000000) (henter : ∀ args w, (callFunc g args).run Tryd.prog w = .ok (.enter g args) w)
    (hcall : ∀ W, Below w.heap.size w W → ∀ i : Nat, i < n → Calls Tryd.prog g #[.int .i64 i, .pointer (some p2), .pointer (some p3)] W fun e W' => e = .returned (.bool (P i)) ∧ Below W.heap.size W W') :
    Calls Tryd.prog 107 #[.int .i64 n, .func (.func g) #[] #[.pointer (some p2), .pointer (some p3)]] w fun e w' => ∃ r : Nat, e = .returned (.int .i64 r) ∧ Hid (SrchOf P n r) ∧ Below w.heap.size w w' := by
  go_enter Tryd.func107, Tryd.ntmps107
  go_wp2
  go_loopg [5, 6] n (fun m vi vj wr => ∃ (i j : Nat), vi = .int .i64 i ∧ vj = .int .i64 j ∧ j - i ≤ m ∧ i ≤ j ∧ j ≤ n ∧ Hid ((∀ k, i = k + 1 → P k = false) ∧ (j < n → P j = true)) ∧ Below w.heap.size w wr)
  case atStart => exact ⟨0, n, rfl, rfl, by omega, by omega, Nat.le_refl _, Lib.hid ⟨fun k h => by omega, fun h => by omega⟩, Below.refl _ _⟩
  case round =>
    obtain ⟨i, j, rfl, rfl, hg, hij, hjn, V, B⟩ := hrel
    by_cases hlt : i < j
    · have hltz : (i : Int) < (j : Int) := by omega
      obtain ⟨h, hh⟩ : ∃ h, h = (i + j) / 2 := ⟨_, rfl⟩
      have hs : ((i : Int) + (j : Int)) / 2 = (h : Int) := by omega
      have ih1 : i ≤ h := by omega
      have ih2 : h < j := by omega
      clear hh
      have hC := hcall _ B h (by omega)
      obtain ⟨q, hq⟩ : ∃ q, P h = q := ⟨_, rfl⟩
      rw [hq] at hC
      have HQ := Lib.hid hq
      clear hq
      go_wp2_with fail
      refine hC.mono ?_
      rintro e w5 ⟨rfl, B5⟩
      have B6 := B.trans (B5.mono B.size)
      clear hC
      cases q with
      | true =>
        have VN := Lib.hid (show (∀ k, i = k + 1 → P k = false) ∧ (h < n → P h = true) from ⟨V.out.1, fun _ => HQ.out⟩)
        go_wp2
        go_roundg (h - i)
        case measure => omega
        case rel => exact ⟨i, h, rfl, rfl, Nat.le_refl _, ih1, by omega, VN, B6⟩
      | false =>
        have VN := Lib.hid (show (∀ k, h + 1 = k + 1 → P k = false) ∧ (j < n → P j = true) from ⟨fun k e => by obtain rfl : h = k := by omega
                                                                                                               exact HQ.out, V.out.2⟩)
        go_wp2
        go_roundg (j - (h + 1))
        case measure => omega
        case rel => exact ⟨h + 1, j, by go_num, rfl, Nat.le_refl _, ih2, hjn, VN, B6⟩
    · have hltz : ¬ (i : Int) < (j : Int) := by omega
      obtain rfl : i = j := by omega
      have RES := Lib.hid (show SrchOf P n i from ⟨hjn, V.out.1, V.out.2⟩)
      go_wp2
      go_ret
      exact ⟨_, rfl, RES, B⟩
set_option maxHeartbeats 4000000 in
set_option maxRecDepth 1000000 in
theorem Seek_any (t : TR) (y : Vl) (w : World) (ht : TrOk w t) (hn : t.vs.length ≤ 1000000000) :
    Calls Tryd.prog 58 #[trV t, valV y] w fun e w' => ∃ r : Nat, e = .returned (.int .i64 r) ∧ Hid (SrchOf (seekP t.vs y) t.vs.length r) ∧ Below w.heap.size w w' := by
  unfold trV valV
  obtain ⟨w1, hw1⟩ : ∃ z, (w.alloc (.cells #[t.vv, t.kv, t.wv] 64)).alloc (.cells #[.int .i64 y.t, .int .i64 y.n, strV y.s] 58) = z := ⟨_, rfl⟩
  have B1 : Below w.heap.size w w1 := by rw [← hw1]; exact below_alloc' (below_new _ _)
  have X : Cel w1 w.heap.size 64 [t.vv, t.kv, t.wv] := by rw [← hw1]; exact (Cel.new w 64 _).keep (below_new _ _)
  have Y : Cel w1 (w.heap.size + 1) 58 [.int .i64 y.t, .int .i64 y.n, strV y.s] := by
    have := Cel.new (w.alloc (.cells #[t.vv, t.kv, t.wv] 64)) 58 [.int .i64 y.t, .int .i64 y.n, strV y.s]
    rw [World.size_alloc, hw1] at this
    exact this
  have hv := ht.vals.keep B1
  clear ht
  go_enter Tryd.func58, Tryd.ntmps58
  go_upto_region 1 with fail
  clear hw1
  obtain ⟨b2, hb2⟩ : ∃ b, w.heap.size = b := ⟨_, rfl⟩
  obtain ⟨b3, hb3⟩ : ∃ b, b2 + 1 = b := ⟨_, rfl⟩
  have BB := B1
  rw [hb2] at X Y
  rw [hb3] at Y
  rw [hb2]
  rw [hb3]
  have q0 := X.at_ (j := 0) rfl
  have y0 := Y.at_ (j := 0) rfl
  have y1 := Y.at_ (j := 1) rfl
  have y2 := Y.at_ (j := 2) rfl
  have hC := search_any 108 ⟨b2, 0, none⟩ ⟨b3, 0, none⟩ (seekP t.vs y) t.vs.length w1 hn (enters_of Tryd.func108 (by kernel_rfl) rfl) (fun W hW i hi => by
    obtain ⟨x, hx⟩ := getElem_of_lt hi
    have h := seek1_any b2 b3 t.pv t.vs.length t.cv t.vs x y i W (cell_keep hW q0) (hv.keep hW) hx (cell_keep hW y0) (cell_keep hW y1) (cell_keep hW y2)
    have e : seekP t.vs y i = decide (0 ≤ cmpV x y) := by unfold seekP; rw [hx]; rfl
    rw [e]
    exact h)
  unfold TR.vv at q0
  clear hb2 hb3 hv X Y y0 y1 y2
  go_wp2_with fail
  refine hC.mono ?_
  rintro e w5 ⟨r, rfl, HS, B5⟩
  clear hC
  go_wp2
  go_ret
  exact ⟨r, rfl, HS, below_trans BB B5⟩
end Go.Proofs.YtdibijhaiaiifaaDoor
