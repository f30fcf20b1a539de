/- The walks of the reference's Irreducible and Monotone. -/
import Derived.Test.YtkjlflmcojmfgaaDoorWu
namespace Go.Proofs.YtkjlflmcojmfgaaDoor
open Go.RowKit
def undB (o : Rl2) (a k : Nat) : Nat → Bool := fun b => if b < k then decide (b ≠ a) && o b a else false
theorem bound_und {n : Nat} {o : Rl2} {a : Nat} : boundOf n o (undB o a n) = lub n o (under n o a) :=
  bound_lub (fun b hb => (mem_under.1 hb).1) fun b hb => by
    unfold undB
    rw [if_pos hb, Bool.eq_iff_iff, Bool.and_eq_true, decide_eq_true_iff, decide_eq_true_iff, mem_under]
    exact ⟨fun h => ⟨hb, h⟩, fun h => h.2⟩
theorem undB_set {o : Rl2} {a k : Nat} {x : Bool} (hx : (decide (k ≠ a) && o k a) = x) (b : Nat) : (if b = k then x else undB o a k b) = undB o a (k + 1) b := by
  unfold undB
  by_cases h : b = k
  · subst h; rw [if_pos rfl, if_pos (by omega), hx]
  · rw [if_neg h]
    by_cases h2 : b < k
    · rw [if_pos h2, if_pos (by omega)]
    · rw [if_neg h2, if_neg (by omega)]
/-- A slice's own block is none of a table's. -/
def MOff (G n : Nat) (rs : Nat → Nat) (v : Value) : Prop := ∀ k, v.ownBlock = some k → k ≠ G ∧ ∀ a, a < n → k ≠ rs a
theorem MOff.empty {w : World} {G c n g cp : Nat} {rs : Nat → Nat} {o : Rl2} (hT : MTop w G c rs n) (hR : MRows w rs n o) (hg : w.heap[g]? = some (.cells #[] 3 (0, 0))) : MOff G n rs (.slice (some ⟨g, 0, none⟩) 0 cp) := by
  intro k hk
  obtain rfl : g = k := by simpa [Value.ownBlock] using hk
  refine ⟨fun e => ?_, fun a ha e => ?_⟩
  · have h0 := hT.1 0 hT.2.1
    rw [← e, cell_of_row _ g 0 _ _ _ hg] at h0
    simp at h0
  · have h0 := hR a ha
    rw [← e] at h0
    unfold BRow at h0
    rw [hg] at h0
    have := congrArg (fun x => match x with | some (Obj.cells _ t _) => t | _ => 0) h0
    simp at this
theorem MRows.lt {w : World} {rs : Nat → Nat} {n : Nat} {o : Rl2} (h : MRows w rs n o) {a : Nat} (ha : a < n) : rs a < w.heap.size := (h a ha).lt
theorem MTop.lt {w : World} {G c : Nat} {rs : Nat → Nat} {n : Nat} (h : MTop w G c rs n) : G < w.heap.size := cell_lt (h.1 0 h.2.1)
theorem MTop.grown {w w' : World} {G c n : Nat} {rs : Nat → Nat} {v : Value} (h : MTop w G c rs n) (hg : w.grownBy w' v.ownBlock) (ho : MOff G n rs v) : MTop w' G c rs n := h.of_block (hg.block G h.lt fun e => (ho G e.symm).1 rfl)
theorem MRows.grown {w w' : World} {G n : Nat} {rs : Nat → Nat} {o : Rl2} {v : Value} (h : MRows w rs n o) (hg : w.grownBy w' v.ownBlock) (ho : MOff G n rs v) : MRows w' rs n o := fun a ha => (h a ha).of_block (hg.block _ (h.lt ha) fun e => (ho _ e.symm).2 a ha rfl)
theorem MOff.pushed {w : World} {G c n g m cp : Nat} {rs : Nat → Nat} {o : Rl2} {v : Value} (h : MOff G n rs v) (hT : MTop w G c rs n) (hR : MRows w rs n o) (hg : v.ownBlock = some g ∨ w.heap.size ≤ g) : MOff G n rs (.slice (some ⟨g, 0, none⟩) m cp) := by
  intro k hk
  obtain rfl : g = k := by simpa [Value.ownBlock] using hk
  rcases hg with hg | hg
  · exact h g hg
  · exact ⟨by have := hT.lt; omega, fun a ha => by have := hR.lt ha; omega⟩
theorem irrTo_zero (n : Nat) (o : Rl2) : irrTo n o 0 = [] := rfl
set_option maxHeartbeats 8000000 in
set_option maxRecDepth 100000 in
theorem Irr_ref (v : Value) (L : Ltc) (w : World) (h : IsLtc w v L) (hK : KeysAt w 1) : Calls Tryd.prog 24 #[v] w (IntsRet (irrL L) w) := by
  have h0 := h
  obtain ⟨ea, ec, ca, cc, rfl, -, -, m1, m2, m3⟩ := h.shape
  have g0 := heap_alloc_new w (.cells #[.string L.name.1, .slice ea L.elems.length ec, .slice ca L.covers.length cc, .int .i64 L.at_] 25)
  have b0 := below_new w (.cells #[.string L.name.1, .slice ea L.elems.length ec, .slice ca L.covers.length cc, .int .i64 L.at_] 25)
  obtain ⟨wb, hwb⟩ : ∃ x : World, x = w.alloc (.cells #[.string L.name.1, .slice ea L.elems.length ec, .slice ca L.covers.length cc, .int .i64 L.at_] 25) := ⟨_, rfl⟩
  rw [← hwb] at g0 b0
  obtain ⟨y0, y1, y2, y3⟩ := Box4.of g0
  go_enter Tryd.func24, Tryd.ntmps24
  go_upto_region 1 with fail
  rw [← hwb]
  clear hwb
  have o1 : OwnI (wb.alloc (.cells #[] 3)) wb.heap.size (.slice (some ⟨wb.heap.size, 0, none⟩) 0 0) [] := OwnI.lit wb [] (by decide)
  have bA := below_new wb (.cells #[] 3)
  have gE := heap_alloc_new wb (.cells #[] 3)
  clear y0 y1 y2 y3
  obtain ⟨y0, y1, y2, y3⟩ := Box4.of (block_keep g0 bA)
  go_wp2_with fail
  refine (Check_ref _ L _ (h0.keep (keeps_below (below_trans b0 bA))) (hK.keep (keeps_below (below_trans b0 bA)))).mono ?_
  rintro e w1 ⟨rfl, bN⟩
  clear y0 y1 y2 y3
  replace o1 := o1.keep bN
  have bB := below_trans bA bN
  replace gE := block_keep gE bN
  replace g0 := block_keep g0 bB
  clear bA bN
  by_cases hck : checkL L = 0
  case neg =>
    have HF := Lib.hid (show irrL L = [] from if_neg hck)
    have hq : (checkL L != 0) = true := by simpa using hck
    generalize checkL L = c at *
    go_wp2
    go_ret
    exact ⟨_, _, by rw [HF.out]; rfl, by rw [HF.out]; exact o1.is (by simp), below_trans b0 bB⟩
  have HF := Lib.hid (show irrL L = irrTo L.elems.length (ordL L) L.elems.length from (if_pos hck).trans rfl)
  have HAR := Lib.hid (check_zero hck).1
  have hn8 := (args_parts HAR.out).1
  rw [hck]
  clear hck
  obtain ⟨y0, y1, y2, y3⟩ := Box4.of g0
  go_wp2_with fail
  refine (Order_ref _ L _ (h0.keep (keeps_below (below_trans b0 bB))) HAR.out).mono ?_
  rintro e w2 ⟨G, c, rfl, hM, bN⟩
  clear y0 y1 y2 y3 g0
  replace o1 := o1.keep bN
  replace bB := below_trans bB bN
  replace gE := block_keep gE bN
  clear bN h0 hK
  have bX := Below.refl w2.heap.size w2
  have hs0 := bB.size
  go_wp2
  obtain ⟨rs, hT, hR⟩ := hM
  have hMO : MOff G L.elems.length rs (.slice (some ⟨wb.heap.size, 0, none⟩) 0 0) := MOff.empty hT hR gE
  clear gE
  go_loopw [5, 3, 6, 7] (fun i ov _ _ wr => ∃ a : Nat, a ≤ L.elems.length ∧ i = .int .i64 a ∧ OwnI wr wb.heap.size ov (irrTo L.elems.length (ordL L) a) ∧ MOff G L.elems.length rs ov ∧ MTop wr G c rs L.elems.length ∧ MRows wr rs L.elems.length (ordL L) ∧ Below wb.heap.size wb wr) (fun i _ _ _ _ => L.elems.length - (intOf i).toNat)
  case atStart => exact ⟨0, Nat.zero_le _, rfl, o1, hMO, hT, hR, bB⟩
  case round =>
    clear o1 hMO hT hR bB
    obtain ⟨a, ha, rfl, hO, hMO, hT, hR, bR⟩ := hrel
    obtain ⟨wo, rfl⟩ : ∃ wo : World, wo = wr := ⟨_, rfl⟩
    obtain ⟨oa, oc, rfl⟩ := hO.len
    by_cases hla : a < L.elems.length
    · have hda : decide (a < L.elems.length) = true := decide_eq_true hla
      have haI : (a : Int) < (L.elems.length : Int) := by omega
      have ha0 : (0 : Int) ≤ (a : Int) := by omega
      have hmk := run_mkB L.elems.length (by omega)
      have r1 := BRow.new wo L.elems.length fun _ => false
      have bA := below_new wo (.cells (boolsV L.elems.length fun _ => false).toArray 4)
      go_upto_region 9 with fail
      clear hmk
      obtain ⟨w3, hw3⟩ : ∃ x : World, x = wo.alloc (.cells (boolsV L.elems.length fun _ => false).toArray 4) := ⟨_, rfl⟩
      rw [← hw3] at r1 bA
      rw [← hw3]
      clear hw3
      go_wp2
      go_loopw [7] (fun j wr => ∃ b : Nat, b ≤ L.elems.length ∧ j = .int .i64 b ∧ BRow wr wo.heap.size L.elems.length (undB (ordL L) a b) ∧ Below wo.heap.size wo wr) (fun j _ => L.elems.length - (intOf j).toNat)
      case atStart => exact ⟨0, Nat.zero_le _, rfl, r1.congr fun _ _ => by simp [undB], bA⟩
      case round =>
        clear r1 bA
        obtain ⟨b, hb, rfl, hU, bI⟩ := hrel
        obtain ⟨wi, rfl⟩ : ∃ wi : World, wi = wr := ⟨_, rfl⟩
        by_cases hlb : b < L.elems.length
        · have hdb : decide (b < L.elems.length) = true := decide_eq_true hlb
          have hbI : (b : Int) < (L.elems.length : Int) := by omega
          have hb0 : (0 : Int) ≤ (b : Int) := by omega
          have hcG := (hT.keep (keeps_below bI)).1 b hlb
          have hcr := ((hR.keep bI) b hlb).cell hla
          have hcu := hU.cell hlb
          have hfu := hU.free (b := b)
          by_cases hab : b = a
          · have q1 : ((b : Int) != (a : Int)) = false := by simp [hab]
            have q2 : (b != a) = false := by simp [hab]
            have HAB := Lib.hid hab
            clear hab
            go_wp2
            go_roundw
            case rel => exact ⟨b + 1, by omega, by go_num, (hU.set b false).congr fun j _ => undB_set (by rw [HAB.out]; simp) j, bI.setCell (p := ⟨wo.heap.size, b, none⟩) (Nat.le_refl _) _⟩
            case measure => simp [intOf]; omega
          · have q1 : ((b : Int) != (a : Int)) = true := by simp; omega
            have q2 : (b != a) = true := by simp [hab]
            have HAB := Lib.hid hab
            clear hab
            obtain ⟨z, hz⟩ : ∃ z, ordL L b a = z := ⟨_, rfl⟩
            have HZ := Lib.hid hz
            rw [hz] at hcr
            clear hz
            go_wp2
            go_roundw
            case rel => exact ⟨b + 1, by omega, by go_num, (hU.set b z).congr fun j _ => undB_set (by rw [HZ.out, decide_eq_true HAB.out]; rfl) j, bI.setCell (p := ⟨wo.heap.size, b, none⟩) (Nat.le_refl _) _⟩
            case measure => simp [intOf]; omega
        · have e : b = L.elems.length := by omega
          subst e
          have hdb : decide (L.elems.length < L.elems.length) = false := decide_eq_false hlb
          obtain ⟨m, hm⟩ : ∃ m, lub L.elems.length (ordL L) (under L.elems.length (ordL L) a) = m := ⟨_, rfl⟩
          have HM := Lib.hid (bound_und.trans hm)
          have HML := Lib.hid hm
          clear hm
          have hIM : IsMat wi G c L.elems.length (ordL L) := ⟨rs, hT.keep (keeps_below bI), hR.keep bI⟩
          go_wp2_with fail
          refine (bound_ref G c L.elems.length (ordL L) wo.heap.size _ _ _ hIM hU (by omega)).mono ?_
          rintro e w4 ⟨rfl, b4⟩
          rw [HM.out]
          clear hIM
          have bW := below_trans bI b4
          replace hO := hO.keep bW
          replace hT := hT.keep (keeps_below bW)
          replace hR := hR.keep bW
          have b4R := bR.trans (bW.mono bR.size)
          clear bW bI b4 bR hU
          by_cases hma : m = (a : Int)
          · have q1 : (m != (a : Int)) = false := by simp [hma]
            have HSK := Lib.hid (irrTo_skip (HML.out.trans hma))
            clear hma
            go_wp2
            go_roundw
            case rel => exact ⟨a + 1, by omega, by go_num, by rw [HSK.out]; exact hO, hMO, hT, hR, b4R⟩
            case measure => simp [intOf]; omega
          · have q1 : (m != (a : Int)) = true := by simp [hma]
            have HTK := Lib.hid (irrTo_take (n := L.elems.length) (o := ordL L) (k := a) (by rw [HML.out]; exact hma))
            clear hma
            have hil := irrTo_len L.elems.length (ordL L) a
            have hil2 : (irrTo L.elems.length (ordL L) a).length ≤ 1000000 := by omega
            have hsz := b4R.size
            go_wp2_with (at_builtin; refine wpList_pushJ (wr := w4) (x := (a : Int)) (g1 := w4.heap.size) rfl (.tmp 50) (.tmp 52) rfl rfl rfl hO (below_new _ _) (heap_alloc_new w4 _) hsz hil2 ?_; intro g1 cap1 w8 hO8 b8 hg8 hd8; have hT8 := hT.grown hg8 hMO; have hR8 := hR.grown hg8 hMO; have hMO8 := MOff.pushed (m := (irrTo L.elems.length (ordL L) a).length + 1) (cp := cap1) hMO hT hR hd8; have b48 := b4R.trans b8)
            go_roundw
            case rel => exact ⟨a + 1, by omega, by go_num, by rw [HTK.out]; exact hO8, hMO8, hT8, hR8, b48⟩
            case measure => simp [intOf]; omega
    · have e : a = L.elems.length := by omega
      subst e
      have hda : decide (L.elems.length < L.elems.length) = false := decide_eq_false hla
      have hil := irrTo_len L.elems.length (ordL L) L.elems.length
      have hOI := hO.is (by omega)
      go_wp2
      go_ret
      exact ⟨oa, oc, by rw [HF.out]; rfl, by rw [HF.out]; exact hOI, below_trans b0 bR⟩
set_option maxHeartbeats 8000000 in
set_option maxRecDepth 100000 in
theorem Mono_ref (v : Value) (L : Ltc) (tv : Value) (t : List Int) (w : World) (h : IsLtc w v L) (ht : IsInts w tv t) (hK : KeysAt w 1) : Calls Tryd.prog 26 #[v, tv] w fun e w' => e = .returned (.bool (monoL L t)) ∧ Below w.heap.size w w' := by
  have ht0 := ht
  obtain ⟨ta, tc, rfl, n1, n2, n3⟩ := IsRows.shape ht
  have h0 := h
  obtain ⟨ea, ec, ca, cc, rfl, -, -, m1, m2, m3⟩ := h.shape
  have g0 := heap_alloc_new w (.cells #[.string L.name.1, .slice ea L.elems.length ec, .slice ca L.covers.length cc, .int .i64 L.at_] 25)
  have b0 := below_new w (.cells #[.string L.name.1, .slice ea L.elems.length ec, .slice ca L.covers.length cc, .int .i64 L.at_] 25)
  obtain ⟨wb, hwb⟩ : ∃ x : World, x = w.alloc (.cells #[.string L.name.1, .slice ea L.elems.length ec, .slice ca L.covers.length cc, .int .i64 L.at_] 25) := ⟨_, rfl⟩
  rw [← hwb] at g0 b0
  obtain ⟨y0, y1, y2, y3⟩ := Box4.of g0
  go_enter Tryd.func26, Tryd.ntmps26
  go_wp2_with fail
  rw [← hwb]
  clear hwb
  refine (Check_ref _ L _ (h0.keep (keeps_below b0)) (hK.keep (keeps_below b0))).mono ?_
  rintro e w1 ⟨rfl, bN⟩
  clear y0 y1 y2 y3
  replace g0 := block_keep g0 bN
  replace b0 := below_trans b0 bN
  clear bN
  obtain ⟨y0, y1, y2, y3⟩ := Box4.of g0
  by_cases hck : checkL L = 0
  case neg =>
    have HF := Lib.hid (show monoL L t = false by unfold monoL; rw [decide_eq_false hck]; rfl)
    have hq : (checkL L != 0) = true := by simpa using hck
    generalize checkL L = c at *
    go_wp2
    go_ret
    exact ⟨ret_bool HF.out.symm, b0⟩
  have HCK := Lib.hid hck
  rw [hck]
  have HAR := Lib.hid (check_zero hck).1
  have hn8 := (args_parts HAR.out).1
  clear hck
  by_cases hlen : t.length = L.elems.length
  case neg =>
    have HF := Lib.hid (show monoL L t = false by unfold monoL; rw [decide_eq_false hlen]; simp)
    have q1 : ((t.length : Int) != (L.elems.length : Int)) = true := by simp; omega
    have q2 : (t.length != L.elems.length) = true := by simpa using hlen
    go_wp2
    go_ret
    exact ⟨ret_bool HF.out.symm, b0⟩
  have q1 : ((t.length : Int) != (L.elems.length : Int)) = false := by simp [hlen]
  have q2 : (t.length != L.elems.length) = false := by simp [hlen]
  have HLEN := Lib.hid hlen
  have hl1 : t.length ≤ L.elems.length := by omega
  have hl2 : L.elems.length ≤ t.length := by omega
  clear hlen
  go_wp2_with fail
  refine (Order_ref _ L _ (h0.keep (keeps_below b0)) HAR.out).mono ?_
  rintro e w2 ⟨G, c, rfl, hM, bN⟩
  clear y0 y1 y2 y3 q1 q2
  replace g0 := block_keep g0 bN
  replace b0 := below_trans b0 bN
  clear bN
  have bX := Below.refl w2.heap.size w2
  go_wp2
  go_loopw [6] (fun i wr => ∃ k : Nat, k ≤ t.length ∧ i = .int .i64 k ∧ Hid (∀ j x, j < k → t[j]? = some x → 0 ≤ x ∧ x < (L.elems.length : Int)) ∧ Below w2.heap.size w2 wr) (fun i _ => t.length - (intOf i).toNat)
  case atStart => exact ⟨0, Nat.zero_le _, rfl, Lib.hid fun _ _ h => by omega, bX⟩
  case round =>
    clear bX
    obtain ⟨k, hk, rfl, HN, bR⟩ := hrel
    obtain ⟨wo, rfl⟩ : ∃ wo : World, wo = wr := ⟨_, rfl⟩
    by_cases hlt : k < t.length
    · have hd : decide (k < t.length) = true := decide_eq_true hlt
      obtain ⟨b1, of1, hce, hc⟩ := ht0.at_ (List.getElem?_eq_getElem hlt)
      subst hce
      have HG := Lib.hid (List.getElem?_eq_getElem hlt)
      have HME := Lib.hid (List.getElem_mem hlt)
      generalize t[k] = x at *
      have hkI : (k : Int) < (t.length : Int) := by omega
      have hk0 : (0 : Int) ≤ (k : Int) := by omega
      obtain ⟨x1, hx1⟩ : ∃ y, decide (0 ≤ x ∧ x < (L.elems.length : Int)) = y := ⟨_, rfl⟩
      have HX1 := Lib.hid hx1
      clear hx1
      have HS : ∀ W, Below w2.heap.size w2 W → (fun w' => w'.cell? ⟨w.heap.size, 0, none⟩ = some (.string L.name.1) ∧ w'.cell? ⟨w.heap.size, 1, none⟩ = some (.slice ea L.elems.length ec) ∧ w'.cell? ⟨w.heap.size, 2, none⟩ = some (.slice ca L.covers.length cc) ∧ w'.cell? ⟨w.heap.size, 3, none⟩ = some (.int .i64 L.at_) ∧ w'.cell? ⟨b1, of1 + k, none⟩ = some (.int .i64 x)) W := fun W hW => ⟨(Box4.of (block_keep g0 hW)).c0, (Box4.of (block_keep g0 hW)).c1, (Box4.of (block_keep g0 hW)).c2, (Box4.of (block_keep g0 hW)).c3, cell_keep (below_trans b0 hW) hc⟩
      have HAL := Lib.hid (fun W (hW : Below w2.heap.size w2 W) => (h0.keep (keeps_below (below_trans b0 hW)) : IsLtc W _ L))
      go_upto_region 7 with fail
      go_cut [34] from 22 to 34 (fun vt wx => vt = .bool (!x1) ∧ Below w2.heap.size w2 wx)
      case first =>
        refine wp_region_noPanic ?_
        refine wp_region_late (fun w' => w'.cell? ⟨w.heap.size, 0, none⟩ = some (.string L.name.1) ∧ w'.cell? ⟨w.heap.size, 1, none⟩ = some (.slice ea L.elems.length ec) ∧ w'.cell? ⟨w.heap.size, 2, none⟩ = some (.slice ca L.covers.length cc) ∧ w'.cell? ⟨w.heap.size, 3, none⟩ = some (.int .i64 L.at_) ∧ w'.cell? ⟨b1, of1 + k, none⟩ = some (.int .i64 x)) 7 (by kernel_rfl) (HS _ (below_drew' bR)) (fun hHeld => ?_)
        refine any_take (by kernel_rfl) (i := 0) (oi := _) (v := ?_) rfl rfl (by kernel_rfl) (by kernel_rfl) (by kernel_rfl) (fun _ _ _ h => h) (Or.inl ⟨by rfl, ?_⟩) hHeld ?_
        rotate_left
        · intro w' hSw; try dsimp only at hSw
          go_simp
          try with_reducible rfl
        try simp only [puts, gets]
        refine any_take (by kernel_rfl) (i := 1) (oi := _) (v := ?_) rfl rfl (by kernel_rfl) (by kernel_rfl) (by kernel_rfl) (fun _ _ _ h => h) (Or.inl ⟨by rfl, ?_⟩) hHeld ?_
        rotate_left
        · intro w' hSw; try dsimp only at hSw
          go_simp
          try with_reducible rfl
        try simp only [puts, gets]
        refine any_take (by kernel_rfl) (i := 2) (oi := _) (v := ?_) rfl rfl (by kernel_rfl) (by kernel_rfl) (by kernel_rfl) (fun _ _ _ h => h) (Or.inl ⟨by rfl, ?_⟩) hHeld ?_
        rotate_left
        · intro w' hSw; try dsimp only at hSw
          go_simp
          try with_reducible rfl
        try simp only [puts, gets]
        refine any_take (by kernel_rfl) (i := 3) (oi := _) (v := ?_) rfl rfl (by kernel_rfl) (by kernel_rfl) (by kernel_rfl) (fun _ _ _ h => h) (Or.inl ⟨by rfl, ?_⟩) hHeld ?_
        rotate_left
        · intro w' hSw; try dsimp only at hSw
          go_simp
          try with_reducible rfl
        try simp only [puts, gets]
        refine any_take (by kernel_rfl) (i := 4) (oi := _) (v := ?_) rfl rfl (by kernel_rfl) (by kernel_rfl) (by kernel_rfl) (fun _ _ _ h => h) (Or.inl ⟨by rfl, ?_⟩) hHeld ?_
        rotate_left
        · intro w' hSw; try dsimp only at hSw
          go_simp
          try with_reducible rfl
        try simp only [puts, gets]
        refine any_next (i := 5) (by kernel_rfl) rfl rfl (fun K hK => ?_)
        go_simp
        go_at_call 37
        refine in_ts (HAL.out _ (below_drew' bR)) HX1 ?_
        intro wq1 bq1
        replace bq1 : Below w2.heap.size w2 wq1 := below_trans bR (below_undrew bq1)
        refine hK.out _ _ ?_ (fun hHeld => ?_)
        · exact HS _ bq1
        clear hK K
        try simp only [puts, gets]
        refine any_take (by kernel_rfl) (i := 6) (oi := _) (v := ?_) rfl rfl (by kernel_rfl) (by kernel_rfl) (by kernel_rfl) (fun _ _ _ h => h) (Or.inl ⟨by rfl, ?_⟩) hHeld ?_
        rotate_left
        · intro w' hSw; try dsimp only at hSw
          go_simp
          try with_reducible rfl
        try simp only [puts, gets]
        refine any_done (by kernel_rfl) ?_ _
        refine NoPanic.normal ?_
        go_wp2
        go_meet
        case rel => exact ⟨rfl, bq1⟩
      case rest =>
        obtain ⟨rfl, bQ⟩ := hcut
        cases x1
        · have HF := Lib.hid (show monoL L t = false by
            unfold monoL
            have : inAll L.elems.length t = false := by unfold inAll; exact List.all_eq_false.2 ⟨x, HME.out, by rw [HX1.out]; decide⟩
            rw [this]; simp)
          go_wp2
          go_ret
          exact ⟨ret_bool HF.out.symm, below_trans b0 bQ⟩
        · go_wp2
          go_roundw
          case rel =>
            exact ⟨k + 1, by omega, by go_num, Lib.hid fun j y hj hy => by
              rcases Nat.lt_or_ge j k with h | h
              · exact HN.out j y h hy
              · obtain rfl : j = k := by omega
                obtain rfl := Option.some.inj (HG.out.symm.trans hy)
                exact of_decide_eq_true HX1.out, bQ⟩
          case measure => simp [intOf]; omega
    · have e : k = t.length := by omega
      subst e
      have hd : decide (t.length < t.length) = false := decide_eq_false hlt
      have HIN := Lib.hid (show ∀ x ∈ t, 0 ≤ x ∧ x < (L.elems.length : Int) from fun x hx => by obtain ⟨j, hj, rfl⟩ := List.mem_iff_getElem.1 hx; exact HN.out j _ hj (List.getElem?_eq_getElem hj))
      have HML := Lib.hid (show monoL L t = monoT L.elems.length (ordL L) t by unfold monoL; rw [decide_eq_true HCK.out, decide_eq_true HLEN.out, show inAll L.elems.length t = true from List.all_eq_true.2 fun x hx => decide_eq_true (HIN.out x hx)]; rfl)
      clear HN
      obtain ⟨w3, HW3⟩ : ∃ x : World, x = wo := ⟨_, rfl⟩
      rw [← HW3] at bR ⊢
      clear HW3 hd
      have hM3 := hM.keep bR
      have bX := Below.refl w3.heap.size w3
      have ht3 := ht0.keep (keeps_below (below_trans b0 bR))
      have hdt : decide (t.length < t.length) = false := decide_eq_false hlt
      go_wp2
      clear hdt
      go_loopw [7, 8] (fun i _ wr => ∃ a : Nat, a ≤ t.length ∧ i = .int .i64 a ∧ Hid (∀ j, j < a → rowOk L.elems.length (ordL L) t j L.elems.length) ∧ Below w3.heap.size w3 wr) (fun i _ _ => t.length - (intOf i).toNat)
      case atStart => exact ⟨0, Nat.zero_le _, rfl, Lib.hid fun _ h => by omega, bX⟩
      case round =>
        clear bX
        obtain ⟨a, ha, rfl, HA, bo⟩ := hrel
        obtain ⟨wa, rfl⟩ : ∃ wa : World, wa = wr := ⟨_, rfl⟩
        by_cases hla : a < t.length
        · have hda : decide (a < t.length) = true := decide_eq_true hla
          go_wp2
          go_loopw [8] (fun j wr => ∃ b : Nat, b ≤ t.length ∧ j = .int .i64 b ∧ Hid (rowOk L.elems.length (ordL L) t a b) ∧ Below w3.heap.size w3 wr) (fun j _ => t.length - (intOf j).toNat)
          case atStart => exact ⟨0, Nat.zero_le _, rfl, Lib.hid fun _ h => by omega, bo⟩
          case round =>
            clear bo
            obtain ⟨b, hb, rfl, HB, bo⟩ := hrel
            obtain ⟨wi, rfl⟩ : ∃ wi : World, wi = wr := ⟨_, rfl⟩
            by_cases hlb : b < t.length
            · have hdb : decide (b < t.length) = true := decide_eq_true hlb
              have han : a < L.elems.length := by omega
              have hbn : b < L.elems.length := by omega
              obtain ⟨b1, of1, hce, hc1⟩ := ht3.at_ (List.getElem?_eq_getElem hla)
              subst hce
              obtain ⟨b2, of2, hce, hc2⟩ := ht3.at_ (List.getElem?_eq_getElem hlb)
              cases hce
              have hi1 := HIN.out _ (List.getElem_mem hla)
              have hi2 := HIN.out _ (List.getElem_mem hlb)
              have HG1 := Lib.hid (List.getElem?_eq_getElem hla)
              have HG2 := Lib.hid (List.getElem?_eq_getElem hlb)
              obtain ⟨xi, hxi⟩ : ∃ x, t[a] = x := ⟨_, rfl⟩
              obtain ⟨yi, hyi⟩ : ∃ x, t[b] = x := ⟨_, rfl⟩
              rw [hxi] at hi1 hc1 HG1
              rw [hyi] at hi2 hc2 HG2
              clear hxi hyi
              obtain ⟨i1, i2⟩ := hi1
              obtain ⟨i3, i4⟩ := hi2
              obtain ⟨x, rfl⟩ := Int.eq_ofNat_of_zero_le i1
              obtain ⟨y, rfl⟩ := Int.eq_ofNat_of_zero_le i3
              have hxn : x < L.elems.length := by omega
              have hyn : y < L.elems.length := by omega
              have haI : (a : Int) < (t.length : Int) := by omega
              have ha0 : (0 : Int) ≤ (a : Int) := by omega
              have hbI : (b : Int) < (t.length : Int) := by omega
              have hb0 : (0 : Int) ≤ (b : Int) := by omega
              have haN : (a : Int) < (L.elems.length : Int) := by omega
              have hbN : (b : Int) < (L.elems.length : Int) := by omega
              obtain ⟨ra, hcA, hRa⟩ := (hM3.keep bo).at_ han
              obtain ⟨rx, hcX, hRx⟩ := (hM3.keep bo).at_ hxn
              have hd1 := hRa.cell hbn
              have hd2 := hRx.cell hyn
              replace hc1 := cell_keep bo hc1
              replace hc2 := cell_keep bo hc2
              obtain ⟨z1, hz1⟩ : ∃ z, ordL L a b = z := ⟨_, rfl⟩
              obtain ⟨z2, hz2⟩ : ∃ z, ordL L x y = z := ⟨_, rfl⟩
              have HZ1 := Lib.hid hz1
              have HZ2 := Lib.hid hz2
              rw [hz1] at hd1
              rw [hz2] at hd2
              clear hz1 hz2
              go_upto_region 15 with fail
              go_cut [69] from 41 to 69 (fun vt wx => vt = .bool (z1 && !z2) ∧ Below wi.heap.size wi wx)
              case first =>
                cases z1
                · skip
                  refine wp_region_noPanic ?_
                  refine wp_region_late (fun w' => w'.cell? ⟨G, a, none⟩ = some (.slice (some ⟨ra, 0, none⟩) L.elems.length L.elems.length) ∧ w'.cell? ⟨ra, b, none⟩ = some (.bool false) ∧ w'.cell? ⟨b1, of1 + a, none⟩ = some (.int .i64 x) ∧ w'.cell? ⟨b1, of1 + b, none⟩ = some (.int .i64 y) ∧ w'.cell? ⟨G, x, none⟩ = some (.slice (some ⟨rx, 0, none⟩) L.elems.length L.elems.length) ∧ w'.cell? ⟨rx, y, none⟩ = some (.bool z2)) 23 (by kernel_rfl) (⟨hcA, hd1, hc1, hc2, hcX, hd2⟩) (fun hHeld => ?_)
                  refine any_take (by kernel_rfl) (i := 0) (oi := _) (v := ?_) rfl rfl (by kernel_rfl) (by kernel_rfl) (by kernel_rfl) (fun _ _ _ h => h) (Or.inl ⟨by rfl, ?_⟩) hHeld ?_
                  rotate_left
                  · intro w' hSw; try dsimp only at hSw
                    go_simp
                    try with_reducible rfl
                  try simp only [puts, gets]
                  refine any_take (by kernel_rfl) (i := 1) (oi := _) (v := ?_) rfl rfl (by kernel_rfl) (by kernel_rfl) (by kernel_rfl) (fun _ _ _ h => h) (Or.inl ⟨by rfl, ?_⟩) hHeld ?_
                  rotate_left
                  · intro w' hSw; try dsimp only at hSw
                    go_simp
                    try with_reducible rfl
                  try simp only [puts, gets]
                  refine any_take (by kernel_rfl) (i := 2) (oi := _) (v := ?_) rfl rfl (by kernel_rfl) (by kernel_rfl) (by kernel_rfl) (fun _ _ _ h => h) (Or.inl ⟨by rfl, ?_⟩) hHeld ?_
                  rotate_left
                  · intro w' hSw; try dsimp only at hSw
                    go_simp
                    try with_reducible rfl
                  try simp only [puts, gets]
                  refine any_take (by kernel_rfl) (i := 3) (oi := _) (v := ?_) rfl rfl (by kernel_rfl) (by kernel_rfl) (by kernel_rfl) (fun _ _ _ h => h) (Or.inl ⟨by rfl, ?_⟩) hHeld ?_
                  rotate_left
                  · intro w' hSw; try dsimp only at hSw
                    go_simp
                    try with_reducible rfl
                  try simp only [puts, gets]
                  refine any_take (by kernel_rfl) (i := 4) (oi := _) (v := ?_) rfl rfl (by kernel_rfl) (by kernel_rfl) (by kernel_rfl) (fun _ _ _ h => h) (Or.inl ⟨by rfl, ?_⟩) hHeld ?_
                  rotate_left
                  · intro w' hSw; try dsimp only at hSw
                    go_simp
                    try with_reducible rfl
                  try simp only [puts, gets]
                  refine any_take (by kernel_rfl) (i := 5) (oi := _) (v := ?_) rfl rfl (by kernel_rfl) (by kernel_rfl) (by kernel_rfl) (fun _ _ _ h => h) (Or.inl ⟨by rfl, ?_⟩) hHeld ?_
                  rotate_left
                  · intro w' hSw; try dsimp only at hSw
                    go_simp
                    try with_reducible rfl
                  try simp only [puts, gets]
                  refine any_take (by kernel_rfl) (i := 6) (oi := _) (v := ?_) rfl rfl (by kernel_rfl) (by kernel_rfl) (by kernel_rfl) (fun _ _ _ h => h) (Or.inl ⟨by rfl, ?_⟩) hHeld ?_
                  rotate_left
                  · intro w' hSw; try dsimp only at hSw
                    go_simp
                    try with_reducible rfl
                  try simp only [puts, gets]
                  refine any_take (by kernel_rfl) (i := 7) (oi := _) (v := ?_) rfl rfl (by kernel_rfl) (by kernel_rfl) (by kernel_rfl) (fun _ _ _ h => h) (Or.inl ⟨by rfl, ?_⟩) hHeld ?_
                  rotate_left
                  · intro w' hSw; try dsimp only at hSw
                    go_simp
                    try with_reducible rfl
                  try simp only [puts, gets]
                  refine any_take (by kernel_rfl) (i := 8) (oi := _) (v := undef) rfl rfl (by kernel_rfl) (by kernel_rfl) (by kernel_rfl) (fun _ _ _ h => h) (Or.inr ⟨by rfl, rfl⟩) hHeld ?_
                  try simp only [puts, gets]
                  refine any_take (by kernel_rfl) (i := 9) (oi := _) (v := undef) rfl rfl (by kernel_rfl) (by kernel_rfl) (by kernel_rfl) (fun _ _ _ h => h) (Or.inr ⟨by rfl, rfl⟩) hHeld ?_
                  try simp only [puts, gets]
                  refine any_take (by kernel_rfl) (i := 10) (oi := _) (v := undef) rfl rfl (by kernel_rfl) (by kernel_rfl) (by kernel_rfl) (fun _ _ _ h => h) (Or.inr ⟨by rfl, rfl⟩) hHeld ?_
                  try simp only [puts, gets]
                  refine any_take (by kernel_rfl) (i := 11) (oi := _) (v := undef) rfl rfl (by kernel_rfl) (by kernel_rfl) (by kernel_rfl) (fun _ _ _ h => h) (Or.inr ⟨by rfl, rfl⟩) hHeld ?_
                  try simp only [puts, gets]
                  refine any_take (by kernel_rfl) (i := 12) (oi := _) (v := undef) rfl rfl (by kernel_rfl) (by kernel_rfl) (by kernel_rfl) (fun _ _ _ h => h) (Or.inr ⟨by rfl, rfl⟩) hHeld ?_
                  try simp only [puts, gets]
                  refine any_take (by kernel_rfl) (i := 13) (oi := _) (v := undef) rfl rfl (by kernel_rfl) (by kernel_rfl) (by kernel_rfl) (fun _ _ _ h => h) (Or.inr ⟨by rfl, rfl⟩) hHeld ?_
                  try simp only [puts, gets]
                  refine any_take (by kernel_rfl) (i := 14) (oi := _) (v := undef) rfl rfl (by kernel_rfl) (by kernel_rfl) (by kernel_rfl) (fun _ _ _ h => h) (Or.inr ⟨by rfl, rfl⟩) hHeld ?_
                  try simp only [puts, gets]
                  refine any_take (by kernel_rfl) (i := 15) (oi := _) (v := undef) rfl rfl (by kernel_rfl) (by kernel_rfl) (by kernel_rfl) (fun _ _ _ h => h) (Or.inr ⟨by rfl, rfl⟩) hHeld ?_
                  try simp only [puts, gets]
                  refine any_take (by kernel_rfl) (i := 16) (oi := _) (v := undef) rfl rfl (by kernel_rfl) (by kernel_rfl) (by kernel_rfl) (fun _ _ _ h => h) (Or.inr ⟨by rfl, rfl⟩) hHeld ?_
                  try simp only [puts, gets]
                  refine any_take (by kernel_rfl) (i := 17) (oi := _) (v := undef) rfl rfl (by kernel_rfl) (by kernel_rfl) (by kernel_rfl) (fun _ _ _ h => h) (Or.inr ⟨by rfl, rfl⟩) hHeld ?_
                  try simp only [puts, gets]
                  refine any_take (by kernel_rfl) (i := 18) (oi := _) (v := undef) rfl rfl (by kernel_rfl) (by kernel_rfl) (by kernel_rfl) (fun _ _ _ h => h) (Or.inr ⟨by rfl, rfl⟩) hHeld ?_
                  try simp only [puts, gets]
                  refine any_take (by kernel_rfl) (i := 19) (oi := _) (v := undef) rfl rfl (by kernel_rfl) (by kernel_rfl) (by kernel_rfl) (fun _ _ _ h => h) (Or.inr ⟨by rfl, rfl⟩) hHeld ?_
                  try simp only [puts, gets]
                  refine any_take (by kernel_rfl) (i := 20) (oi := _) (v := undef) rfl rfl (by kernel_rfl) (by kernel_rfl) (by kernel_rfl) (fun _ _ _ h => h) (Or.inr ⟨by rfl, rfl⟩) hHeld ?_
                  try simp only [puts, gets]
                  refine any_take (by kernel_rfl) (i := 21) (oi := _) (v := undef) rfl rfl (by kernel_rfl) (by kernel_rfl) (by kernel_rfl) (fun _ _ _ h => h) (Or.inr ⟨by rfl, rfl⟩) hHeld ?_
                  try simp only [puts, gets]
                  refine any_take (by kernel_rfl) (i := 22) (oi := _) (v := ?_) rfl rfl (by kernel_rfl) (by kernel_rfl) (by kernel_rfl) (fun _ _ _ h => h) (Or.inl ⟨by rfl, ?_⟩) hHeld ?_
                  rotate_left
                  · intro w' hSw; try dsimp only at hSw
                    go_simp
                    try with_reducible rfl
                  try simp only [puts, gets]
                  refine any_done (by kernel_rfl) ?_ _
                  refine NoPanic.normal ?_
                  go_wp2
                  go_meet
                  case rel => exact ⟨rfl, below_drew' (Below.refl _ _)⟩
                · skip
                  refine wp_region_noPanic ?_
                  refine wp_region_late (fun w' => w'.cell? ⟨G, a, none⟩ = some (.slice (some ⟨ra, 0, none⟩) L.elems.length L.elems.length) ∧ w'.cell? ⟨ra, b, none⟩ = some (.bool true) ∧ w'.cell? ⟨b1, of1 + a, none⟩ = some (.int .i64 x) ∧ w'.cell? ⟨b1, of1 + b, none⟩ = some (.int .i64 y) ∧ w'.cell? ⟨G, x, none⟩ = some (.slice (some ⟨rx, 0, none⟩) L.elems.length L.elems.length) ∧ w'.cell? ⟨rx, y, none⟩ = some (.bool z2)) 23 (by kernel_rfl) (⟨hcA, hd1, hc1, hc2, hcX, hd2⟩) (fun hHeld => ?_)
                  refine any_take (by kernel_rfl) (i := 0) (oi := _) (v := ?_) rfl rfl (by kernel_rfl) (by kernel_rfl) (by kernel_rfl) (fun _ _ _ h => h) (Or.inl ⟨by rfl, ?_⟩) hHeld ?_
                  rotate_left
                  · intro w' hSw; try dsimp only at hSw
                    go_simp
                    try with_reducible rfl
                  try simp only [puts, gets]
                  refine any_take (by kernel_rfl) (i := 1) (oi := _) (v := ?_) rfl rfl (by kernel_rfl) (by kernel_rfl) (by kernel_rfl) (fun _ _ _ h => h) (Or.inl ⟨by rfl, ?_⟩) hHeld ?_
                  rotate_left
                  · intro w' hSw; try dsimp only at hSw
                    go_simp
                    try with_reducible rfl
                  try simp only [puts, gets]
                  refine any_take (by kernel_rfl) (i := 2) (oi := _) (v := ?_) rfl rfl (by kernel_rfl) (by kernel_rfl) (by kernel_rfl) (fun _ _ _ h => h) (Or.inl ⟨by rfl, ?_⟩) hHeld ?_
                  rotate_left
                  · intro w' hSw; try dsimp only at hSw
                    go_simp
                    try with_reducible rfl
                  try simp only [puts, gets]
                  refine any_take (by kernel_rfl) (i := 3) (oi := _) (v := ?_) rfl rfl (by kernel_rfl) (by kernel_rfl) (by kernel_rfl) (fun _ _ _ h => h) (Or.inl ⟨by rfl, ?_⟩) hHeld ?_
                  rotate_left
                  · intro w' hSw; try dsimp only at hSw
                    go_simp
                    try with_reducible rfl
                  try simp only [puts, gets]
                  refine any_take (by kernel_rfl) (i := 4) (oi := _) (v := ?_) rfl rfl (by kernel_rfl) (by kernel_rfl) (by kernel_rfl) (fun _ _ _ h => h) (Or.inl ⟨by rfl, ?_⟩) hHeld ?_
                  rotate_left
                  · intro w' hSw; try dsimp only at hSw
                    go_simp
                    try with_reducible rfl
                  try simp only [puts, gets]
                  refine any_take (by kernel_rfl) (i := 5) (oi := _) (v := ?_) rfl rfl (by kernel_rfl) (by kernel_rfl) (by kernel_rfl) (fun _ _ _ h => h) (Or.inl ⟨by rfl, ?_⟩) hHeld ?_
                  rotate_left
                  · intro w' hSw; try dsimp only at hSw
                    go_simp
                    try with_reducible rfl
                  try simp only [puts, gets]
                  refine any_take (by kernel_rfl) (i := 6) (oi := _) (v := ?_) rfl rfl (by kernel_rfl) (by kernel_rfl) (by kernel_rfl) (fun _ _ _ h => h) (Or.inl ⟨by rfl, ?_⟩) hHeld ?_
                  rotate_left
                  · intro w' hSw; try dsimp only at hSw
                    go_simp
                    try with_reducible rfl
                  try simp only [puts, gets]
                  refine any_take (by kernel_rfl) (i := 7) (oi := _) (v := ?_) rfl rfl (by kernel_rfl) (by kernel_rfl) (by kernel_rfl) (fun _ _ _ h => h) (Or.inl ⟨by rfl, ?_⟩) hHeld ?_
                  rotate_left
                  · intro w' hSw; try dsimp only at hSw
                    go_simp
                    try with_reducible rfl
                  try simp only [puts, gets]
                  refine any_take (by kernel_rfl) (i := 8) (oi := _) (v := ?_) rfl rfl (by kernel_rfl) (by kernel_rfl) (by kernel_rfl) (fun _ _ _ h => h) (Or.inl ⟨by rfl, ?_⟩) hHeld ?_
                  rotate_left
                  · intro w' hSw; try dsimp only at hSw
                    go_simp
                    try with_reducible rfl
                  try simp only [puts, gets]
                  refine any_take (by kernel_rfl) (i := 9) (oi := _) (v := ?_) rfl rfl (by kernel_rfl) (by kernel_rfl) (by kernel_rfl) (fun _ _ _ h => h) (Or.inl ⟨by rfl, ?_⟩) hHeld ?_
                  rotate_left
                  · intro w' hSw; try dsimp only at hSw
                    go_simp
                    try with_reducible rfl
                  try simp only [puts, gets]
                  refine any_take (by kernel_rfl) (i := 10) (oi := _) (v := ?_) rfl rfl (by kernel_rfl) (by kernel_rfl) (by kernel_rfl) (fun _ _ _ h => h) (Or.inl ⟨by rfl, ?_⟩) hHeld ?_
                  rotate_left
                  · intro w' hSw; try dsimp only at hSw
                    go_simp
                    try with_reducible rfl
                  try simp only [puts, gets]
                  refine any_take (by kernel_rfl) (i := 11) (oi := _) (v := ?_) rfl rfl (by kernel_rfl) (by kernel_rfl) (by kernel_rfl) (fun _ _ _ h => h) (Or.inl ⟨by rfl, ?_⟩) hHeld ?_
                  rotate_left
                  · intro w' hSw; try dsimp only at hSw
                    go_simp
                    try with_reducible rfl
                  try simp only [puts, gets]
                  refine any_take (by kernel_rfl) (i := 12) (oi := _) (v := ?_) rfl rfl (by kernel_rfl) (by kernel_rfl) (by kernel_rfl) (fun _ _ _ h => h) (Or.inl ⟨by rfl, ?_⟩) hHeld ?_
                  rotate_left
                  · intro w' hSw; try dsimp only at hSw
                    go_simp
                    try with_reducible rfl
                  try simp only [puts, gets]
                  refine any_take (by kernel_rfl) (i := 13) (oi := _) (v := ?_) rfl rfl (by kernel_rfl) (by kernel_rfl) (by kernel_rfl) (fun _ _ _ h => h) (Or.inl ⟨by rfl, ?_⟩) hHeld ?_
                  rotate_left
                  · intro w' hSw; try dsimp only at hSw
                    go_simp
                    try with_reducible rfl
                  try simp only [puts, gets]
                  refine any_take (by kernel_rfl) (i := 14) (oi := _) (v := ?_) rfl rfl (by kernel_rfl) (by kernel_rfl) (by kernel_rfl) (fun _ _ _ h => h) (Or.inl ⟨by rfl, ?_⟩) hHeld ?_
                  rotate_left
                  · intro w' hSw; try dsimp only at hSw
                    go_simp
                    try with_reducible rfl
                  try simp only [puts, gets]
                  refine any_take (by kernel_rfl) (i := 15) (oi := _) (v := ?_) rfl rfl (by kernel_rfl) (by kernel_rfl) (by kernel_rfl) (fun _ _ _ h => h) (Or.inl ⟨by rfl, ?_⟩) hHeld ?_
                  rotate_left
                  · intro w' hSw; try dsimp only at hSw
                    go_simp
                    try with_reducible rfl
                  try simp only [puts, gets]
                  refine any_take (by kernel_rfl) (i := 16) (oi := _) (v := ?_) rfl rfl (by kernel_rfl) (by kernel_rfl) (by kernel_rfl) (fun _ _ _ h => h) (Or.inl ⟨by rfl, ?_⟩) hHeld ?_
                  rotate_left
                  · intro w' hSw; try dsimp only at hSw
                    go_simp
                    try with_reducible rfl
                  try simp only [puts, gets]
                  refine any_take (by kernel_rfl) (i := 17) (oi := _) (v := ?_) rfl rfl (by kernel_rfl) (by kernel_rfl) (by kernel_rfl) (fun _ _ _ h => h) (Or.inl ⟨by rfl, ?_⟩) hHeld ?_
                  rotate_left
                  · intro w' hSw; try dsimp only at hSw
                    go_simp
                    try with_reducible rfl
                  try simp only [puts, gets]
                  refine any_take (by kernel_rfl) (i := 18) (oi := _) (v := ?_) rfl rfl (by kernel_rfl) (by kernel_rfl) (by kernel_rfl) (fun _ _ _ h => h) (Or.inl ⟨by rfl, ?_⟩) hHeld ?_
                  rotate_left
                  · intro w' hSw; try dsimp only at hSw
                    go_simp
                    try with_reducible rfl
                  try simp only [puts, gets]
                  refine any_take (by kernel_rfl) (i := 19) (oi := _) (v := ?_) rfl rfl (by kernel_rfl) (by kernel_rfl) (by kernel_rfl) (fun _ _ _ h => h) (Or.inl ⟨by rfl, ?_⟩) hHeld ?_
                  rotate_left
                  · intro w' hSw; try dsimp only at hSw
                    go_simp
                    try with_reducible rfl
                  try simp only [puts, gets]
                  refine any_take (by kernel_rfl) (i := 20) (oi := _) (v := ?_) rfl rfl (by kernel_rfl) (by kernel_rfl) (by kernel_rfl) (fun _ _ _ h => h) (Or.inl ⟨by rfl, ?_⟩) hHeld ?_
                  rotate_left
                  · intro w' hSw; try dsimp only at hSw
                    go_simp
                    try with_reducible rfl
                  try simp only [puts, gets]
                  refine any_take (by kernel_rfl) (i := 21) (oi := _) (v := ?_) rfl rfl (by kernel_rfl) (by kernel_rfl) (by kernel_rfl) (fun _ _ _ h => h) (Or.inl ⟨by rfl, ?_⟩) hHeld ?_
                  rotate_left
                  · intro w' hSw; try dsimp only at hSw
                    go_simp
                    try with_reducible rfl
                  try simp only [puts, gets]
                  refine any_take (by kernel_rfl) (i := 22) (oi := _) (v := ?_) rfl rfl (by kernel_rfl) (by kernel_rfl) (by kernel_rfl) (fun _ _ _ h => h) (Or.inl ⟨by rfl, ?_⟩) hHeld ?_
                  rotate_left
                  · intro w' hSw; try dsimp only at hSw
                    go_simp
                    try with_reducible rfl
                  try simp only [puts, gets]
                  refine any_done (by kernel_rfl) ?_ _
                  refine NoPanic.normal ?_
                  go_wp2
                  go_meet
                  case rel => exact ⟨rfl, below_drew' (Below.refl _ _)⟩
              case rest =>
                obtain ⟨rfl, bQ⟩ := hcut
                have bo2 := below_trans bo bQ
                cases hzz : (z1 && !z2)
                · have HV := Lib.hid (show rowOk L.elems.length (ordL L) t a (b + 1) from fun j hj hjn ho => by
                    rcases Nat.lt_or_ge j b with h | h
                    · exact HB.out j h hjn ho
                    · obtain rfl : j = b := by omega
                      rw [getD_at HG1.out, getD_at HG2.out, Int.toNat_natCast, Int.toNat_natCast, HZ2.out]
                      rw [HZ1.out] at ho
                      subst ho
                      simpa using hzz)
                  clear hzz
                  go_wp2
                  go_roundw
                  case rel => exact ⟨b + 1, by omega, by go_num, HV, bo2⟩
                  case measure => simp [intOf]; omega
                · have HF := Lib.hid (HML.out.trans (monoT_false han hbn HG1.out HG2.out (by rw [HZ1.out]; simp at hzz; exact hzz.1) (by rw [HZ2.out]; simp at hzz; exact hzz.2)))
                  clear hzz
                  go_wp2
                  go_ret
                  exact ⟨ret_bool HF.out.symm, below_trans (below_trans b0 bR) bo2⟩
            · have e : b = t.length := by omega
              subst e
              have hdb : decide (t.length < t.length) = false := decide_eq_false hlb
              have HV := Lib.hid (show ∀ j, j < a + 1 → rowOk L.elems.length (ordL L) t j L.elems.length from fun j hj => by
                rcases Nat.lt_or_ge j a with h | h
                · exact HA.out j h
                · obtain rfl : j = a := by omega
                  rw [← HLEN.out]; exact fun i hi hin => HB.out i hi (by rw [← HLEN.out]; exact hi))
              go_wp2
              go_roundw
              case rel => exact ⟨a + 1, by omega, by go_num, HV, bo⟩
              case measure => simp [intOf]; omega
        · have e : a = t.length := by omega
          subst e
          have hda : decide (t.length < t.length) = false := decide_eq_false hla
          have HF := Lib.hid (HML.out.trans (monoT_true fun j hj => HA.out j (by omega)))
          go_wp2
          go_ret
          exact ⟨ret_bool HF.out.symm, below_trans (below_trans b0 bR) bo⟩
end Go.Proofs.YtkjlflmcojmfgaaDoor
