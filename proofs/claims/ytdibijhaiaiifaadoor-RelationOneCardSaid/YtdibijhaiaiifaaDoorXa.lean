/- The walks of package value's comparisons. -/
import Derived.Test.YtdibijhaiaiifaaDoorVals
namespace Go.Proofs.YtdibijhaiaiifaaDoor
open Go.RowKit
theorem isNaNb_any (a : Int) (w : World) : Calls Tryd.prog 138 #[.int .u8 a] w fun e w' => e = .returned (.bool false) ∧ w = w' := by
  have h : (a != a) = false := by simp
  go_enter Tryd.func138, Tryd.ntmps138
  go_wp2
  go_ret
  exact ⟨rfl, rfl⟩
theorem cmpB8_any (a b : Int) (w : World) : Calls Tryd.prog 118 #[.int .u8 a, .int .u8 b] w fun e w' => e = .returned (.int .i64 (cmpI a b)) ∧ w = w' := by
  obtain ⟨r, hr⟩ : ∃ r, cmpI a b = r := ⟨_, rfl⟩
  rw [hr]
  by_cases h1 : a < b
  · have : r = -1 := by rw [← hr]; simp [cmpI, h1]
    subst this
    clear hr
    go_enter Tryd.func118, Tryd.ntmps118
    go_wp2_with fail
    refine (isNaNb_any _ _).mono ?_
    rintro e w1 ⟨rfl, rfl⟩
    go_wp2_with fail
    refine (isNaNb_any _ _).mono ?_
    rintro e w1 ⟨rfl, rfl⟩
    go_wp2
    go_ret
    exact ⟨rfl, rfl⟩
  · by_cases h2 : b < a
    · have : r = 1 := by rw [← hr]; simp [cmpI, h1, h2]
      subst this
      clear hr
      go_enter Tryd.func118, Tryd.ntmps118
      go_wp2_with fail
      refine (isNaNb_any _ _).mono ?_
      rintro e w1 ⟨rfl, rfl⟩
      go_wp2_with fail
      refine (isNaNb_any _ _).mono ?_
      rintro e w1 ⟨rfl, rfl⟩
      go_wp2
      go_ret
      exact ⟨rfl, rfl⟩
    · have : r = 0 := by rw [← hr]; simp [cmpI, h1, h2]
      subst this
      clear hr
      go_enter Tryd.func118, Tryd.ntmps118
      go_wp2_with fail
      refine (isNaNb_any _ _).mono ?_
      rintro e w1 ⟨rfl, rfl⟩
      go_wp2_with fail
      refine (isNaNb_any _ _).mono ?_
      rintro e w1 ⟨rfl, rfl⟩
      go_wp2
      go_ret
      exact ⟨rfl, rfl⟩
theorem cmpBfn_any (a b : Int) (w : World) : Calls Tryd.prog 117 #[.int .u8 a, .int .u8 b] w fun e w' => e = .returned (.int .i64 (cmpI a b)) ∧ w = w' := by
  go_enter Tryd.func117, Tryd.ntmps117
  go_wp2_with fail
  refine (cmpB8_any _ _ _).mono ?_
  rintro e w1 ⟨rfl, rfl⟩
  go_wp2
  go_ret
  exact ⟨rfl, rfl⟩
section
variable {α : Type} {f : α → α → Int}
theorem cmpL_end {a b : List α} {k : Nat} (hk : k = a.length) (hb : k ≤ b.length) (h : cmpL f (a.drop k) (b.drop k) = cmpL f a b) : cmpI a.length b.length = cmpL f a b := by
  rw [← h, hk, List.drop_length]
  rcases Nat.lt_or_ge a.length b.length with hlt | hge
  · rw [List.drop_eq_getElem_cons hlt]
    simp only [cmpL, cmpI]
    rw [if_pos (by omega)]
  · rw [List.drop_eq_nil_of_le hge]
    simp only [cmpL, cmpI]
    rw [if_neg (by omega), if_neg (by omega)]
theorem cmpL_long {a b : List α} {k : Nat} (hk : k < a.length) (hb : k = b.length) (h : cmpL f (a.drop k) (b.drop k) = cmpL f a b) : cmpL f a b = 1 := by
  rw [← h, hb, List.drop_length, List.drop_eq_getElem_cons (by omega)]
  rfl
theorem cmpL_other {a b : List α} {k : Nat} (hk : k < a.length) (hb : k < b.length) (h : cmpL f (a.drop k) (b.drop k) = cmpL f a b) (hc : ¬ f a[k] b[k] = 0) : cmpL f a b = f a[k] b[k] := by
  rw [← h, List.drop_eq_getElem_cons hk, List.drop_eq_getElem_cons hb, cmpL, if_neg hc]
theorem cmpL_next {a b : List α} {k : Nat} (hk : k < a.length) (hb : k < b.length) (h : cmpL f (a.drop k) (b.drop k) = cmpL f a b) (hc : f a[k] b[k] = 0) : cmpL f (a.drop (k + 1)) (b.drop (k + 1)) = cmpL f a b := by
  rw [← h, List.drop_eq_getElem_cons hk, List.drop_eq_getElem_cons hb, cmpL, if_pos hc]
end
theorem listsB_any (va vb : Value) (a b : List UInt8) (w : World) (ha : IsBytes w va a) (hb : IsBytes w vb b) :
    Calls Tryd.prog 116 #[va, vb, .func (.func 117) #[] #[]] w fun e w' => e = .returned (.int .i64 (cmpL cmpB a b)) ∧ w = w' := by
  obtain ⟨pa, ca, rfl, ha, hma⟩ := ha
  obtain ⟨pb, cb, rfl, hb, hmb⟩ := hb
  go_enter Tryd.func116, Tryd.ntmps116
  go_wp2
  go_loop [7, 8, 9, 12] (fun _ _ _ i => ∃ k : Nat, k ≤ a.length ∧ k ≤ b.length ∧ i = .int .i64 k ∧ cmpL cmpB (a.drop k) (b.drop k) = cmpL cmpB a b) (fun _ _ _ i => a.length - (intOf i).toNat)
  case atStart => exact ⟨0, Nat.zero_le _, Nat.zero_le _, rfl, rfl⟩
  case round =>
    obtain ⟨k, hk, hkb, rfl, hc⟩ := hrel
    have HC := Lib.hid hc
    clear hc
    by_cases hlt : k < a.length
    · obtain ⟨b1, o1, rfl, c1⟩ := ha.one (List.getElem?_eq_getElem hlt) rfl
      by_cases hlb : k < b.length
      · obtain ⟨b2, o2, rfl, c2⟩ := hb.one (List.getElem?_eq_getElem hlb) rfl
        have hne : ((k : Int) == b.length) = false := by rw [beq_eq_false_iff_ne]; omega
        obtain ⟨r, hr⟩ : ∃ r, cmpI (a[k].toNat : Int) (b[k].toNat : Int) = r := ⟨_, rfl⟩
        by_cases h0 : r = 0
        · have hn := Lib.hid (cmpL_next hlt hlb HC.out (show cmpB a[k] b[k] = 0 from hr.trans h0))
          subst h0
          generalize a[k] = x at *
          generalize b[k] = y at *
          go_wp2_with fail
          refine (cmpBfn_any _ _ _).mono ?_
          rintro e w1 ⟨rfl, rfl⟩
          rw [hr]
          clear hr
          go_wp2
          go_round
          case rel => exact ⟨k + 1, by omega, by omega, by go_num, hn.out⟩
          case measure => simp [intOf]; omega
        · have hn := Lib.hid (cmpL_other hlt hlb HC.out (show ¬ cmpB a[k] b[k] = 0 from fun e => h0 (hr.symm.trans e)))
          have hE : cmpB a[k] b[k] = r := hr
          rw [hE] at hn
          clear hE
          have hr0 : (r != 0) = true := by simpa using h0
          generalize a[k] = x at *
          generalize b[k] = y at *
          go_wp2_with fail
          refine (cmpBfn_any _ _ _).mono ?_
          rintro e w1 ⟨rfl, rfl⟩
          rw [hr]
          clear hr h0
          go_wp2
          go_ret
          exact ⟨by rw [hn.out]; rfl, rfl⟩
      · have hkl : k = b.length := by omega
        have hn := Lib.hid (cmpL_long hlt hkl HC.out)
        have hne : ((k : Int) == b.length) = true := by rw [beq_iff_eq]; omega
        generalize a[k] = x at *
        clear hkl
        go_wp2
        go_ret
        exact ⟨by rw [hn.out]; rfl, rfl⟩
    · have hn := Lib.hid (cmpL_end (f := cmpB) (show k = a.length by omega) hkb HC.out)
      go_wp2_with fail
      refine (cmpI_any _ _ _).mono ?_
      rintro e w1 ⟨rfl, rfl⟩
      rw [hn.out]
      go_wp2
      go_ret
      exact ⟨rfl, rfl⟩
end Go.Proofs.YtdibijhaiaiifaaDoor
