/- The walks of the given program's Valid of a value. -/
import Derived.Test.YtdibijhaiaiifaaDoorSel
import Derived.Laws.RangeAny
import Derived.Laws.RangeString
namespace Go.Proofs.YtdibijhaiaiifaaDoor
open Go.RowKit
def ltrI (n : Int) : Bool := (decide (97 ≤ n) && decide (n ≤ 122)) || (decide (65 ≤ n) && decide (n ≤ 90)) || (decide (48 ≤ n) && decide (n ≤ 57)) || decide (n = 95)
def isLetter (c : UInt8) : Bool := ltrI c.toNat
def headOk (l : List UInt8) : Bool := decide (1 ≤ l.length) && decide (l.length ≤ 16) && (match l with | c :: _ => decide (97 ≤ c.toNat) && decide (c.toNat ≤ 122) | [] => false)
def symB (l : List UInt8) : Bool := headOk l && l.all isLetter && decide (l ∉ keyWords)
def validV (x : Vl) : Bool := if x.t = 1 then decide (0 ≤ x.n) && decide (x.n ≤ 9999) && decide (x.s = []) else decide (x.t = 2) && decide (x.n = 0) && symB x.s
set_option maxHeartbeats 1000000 in
theorem odd_any (n : Int) (w : World) : Calls Tryd.prog 140 #[.int .i32 n] w fun e w' => e = .returned (.bool (!ltrI n)) ∧ w = w' := by
  have HL := Lib.hid (show ltrI n = ((decide (97 ≤ n) && decide (n ≤ 122)) || (decide (65 ≤ n) && decide (n ≤ 90)) || (decide (48 ≤ n) && decide (n ≤ 57)) || decide (n = 95)) from rfl)
  go_enter Tryd.func140, Tryd.ntmps140
  go_wp2
  all_goals
    go_ret
    refine ⟨ret_bool ?_, rfl⟩
    rw [HL.out, Bool.eq_iff_iff]
    simp
    omega
theorem ltr_low {c : UInt8} (h : isLetter c = true) : c.toNat < 128 := by
  unfold isLetter ltrI at h
  simp at h
  omega
theorem ltr_high {n : Int} (h : 128 ≤ n) : ltrI n = false := by
  unfold ltrI
  rw [decide_eq_false (show ¬ n ≤ 122 by omega), decide_eq_false (show ¬ n ≤ 90 by omega), decide_eq_false (show ¬ n ≤ 57 by omega), decide_eq_false (show ¬ n = 95 by omega)]
  simp
theorem dec_letter (s : ByteArray) (k : Nat) (hp : k < s.size) : ltrI ((Utf8.decode s k).1 : Int) = isLetter (s[k]'hp) ∧ (isLetter (s[k]'hp) = true → (Utf8.decode s k).2 = 1) := by
  by_cases ha : (s[k]'hp).toNat < 128
  · rw [decode_ascii s k hp ha]
    exact ⟨rfl, fun _ => rfl⟩
  · have hh := decode_high s k hp (by omega)
    have h2 : isLetter (s[k]'hp) = false := by
      unfold isLetter
      exact ltr_high (by omega)
    rw [h2]
    exact ⟨ltr_high (by omega), fun h => by cases h⟩
set_option maxHeartbeats 2000000 in
set_option maxRecDepth 1000000 in
theorem indexOdd_any (l : List UInt8) (w : World) :
    Calls Tryd.prog 154 #[strV l, .func (.func 140) #[] #[], .bool true] w fun e w' => (∃ i : Int, e = .returned (.int .i64 i) ∧ (0 ≤ i ↔ l.all isLetter = false)) ∧ Below w.heap.size w w' := by
  go_enter Tryd.func154, Tryd.ntmps154
  obtain ⟨s, hs⟩ : ∃ s : ByteArray, s = ⟨l.toArray⟩ := ⟨_, rfl⟩
  have hsz : s.size = l.length := by rw [hs]; rfl
  have HG := Lib.hid (show ∀ k (h : k < s.size), ∃ hk : k < l.length, s[k]'h = l[k] from fun k h => ⟨by omega, by subst hs; rfl⟩)
  have HSV : strV l = .string s := by rw [hs]
  rw [HSV]
  clear hs HSV
  have HSZ := Lib.hid hsz
  have hz1 : s.size ≤ l.length := by omega
  have hz2 : l.length ≤ s.size := by omega
  clear hsz
  go_wp2
  go_loopg [7] l.length (fun g v7 wr => ∃ k : Nat, wr = w.iter s k ∧ k ≤ l.length ∧ l.length - k ≤ g ∧ Hid ((l.take k).all isLetter = true))
  case atStart => exact ⟨0, rfl, Nat.zero_le _, Nat.le_refl _, Lib.hid rfl⟩
  case round =>
    obtain ⟨k, rfl, hk, hg, V⟩ := hrel
    have BI : Below w.heap.size w (w.iter s k) := below_new w _
    by_cases hp : k < s.size
    · have hkl : k < l.length := by omega
      have hnx : ∀ ty, (Instr.next (.pointer (some ⟨w.heap.size, 0, none⟩)) true ty).run Tryd.prog (w.iter s k) = _ := fun ty => run_next_any w s k ty hp
      have hdl := dec_letter s k hp
      obtain ⟨⟨r, wd⟩, hd⟩ : ∃ p, Utf8.decode s k = p := ⟨_, rfl⟩
      rw [hd] at hnx hdl
      obtain ⟨hk', e'⟩ := HG.out k hp
      rw [e'] at hdl
      have HL := Lib.hid hdl
      clear hdl e'
      have HT := Lib.hid (show (l.take (k + 1)).all isLetter = ((l.take k).all isLetter && isLetter l[k]) by rw [List.take_succ_eq_append_getElem hkl, List.all_append]; simp)
      have HM := Lib.hid (List.getElem_mem hkl)
      generalize l[k] = c at *
      dsimp only at hnx
      clear hd
      go_wp2_with fail
      refine (odd_any _ _).mono ?_
      rintro e w5 ⟨rfl, rfl⟩
      rw [HL.out.1]
      cases hc : isLetter c
      · have RES := Lib.hid (show l.all isLetter = false by rw [List.all_eq_false]; exact ⟨c, HM.out, by rw [hc]; simp⟩)
        clear hc
        go_wp2
        go_ret
        exact ⟨⟨_, rfl, ⟨fun _ => RES.out, fun _ => by omega⟩⟩, below_new w _⟩
      · obtain rfl := HL.out.2 hc
        have VN := Lib.hid (show (l.take (k + 1)).all isLetter = true by rw [HT.out, V.out, hc]; rfl)
        clear hc
        go_wp2
        go_roundg (l.length - (k + 1))
        case measure => omega
        case rel => exact ⟨k + 1, rfl, hkl, Nat.le_refl _, VN⟩
    · have hnx : ∀ ty, (Instr.next (.pointer (some ⟨w.heap.size, 0, none⟩)) true ty).run Tryd.prog (w.iter s k) = _ := fun ty => run_next_end w s k ty hp
      have RES := Lib.hid (show l.all isLetter = true by have := V.out; rwa [List.take_of_length_le (by omega)] at this)
      go_wp2
      go_ret
      exact ⟨⟨_, rfl, ⟨fun h => by omega, fun h => by rw [RES.out] at h; cases h⟩⟩, BI⟩
theorem indexFn_any (l : List UInt8) (w : World) : Calls Tryd.prog 149 #[strV l, .func (.func 140) #[] #[]] w fun e w' => (∃ i : Int, e = .returned (.int .i64 i) ∧ (0 ≤ i ↔ l.all isLetter = false)) ∧ Below w.heap.size w w' := by
  go_enter Tryd.func149, Tryd.ntmps149
  go_wp2_with fail
  refine (indexOdd_any l _).mono ?_
  rintro e w1 ⟨⟨i, rfl, hi⟩, B⟩
  have HI := Lib.hid hi
  clear hi
  go_wp2
  go_ret
  exact ⟨⟨i, rfl, HI.out⟩, B⟩
theorem hasOdd_any (l : List UInt8) (w : World) : Calls Tryd.prog 141 #[strV l, .func (.func 140) #[] #[]] w fun e w' => e = .returned (.bool (!l.all isLetter)) ∧ Below w.heap.size w w' := by
  go_enter Tryd.func141, Tryd.ntmps141
  go_wp2_with fail
  refine (indexFn_any l _).mono ?_
  rintro e w1 ⟨⟨i, rfl, hi⟩, B⟩
  have HI := Lib.hid (show decide (0 ≤ i) = !l.all isLetter by
    rw [Bool.eq_iff_iff, decide_eq_true_iff, hi]; simp)
  clear hi
  go_wp2
  go_ret
  exact ⟨by rw [← HI.out]; rfl, B⟩
set_option maxHeartbeats 1000000 in
theorem indexKey_any (l : List UInt8) (w : World) (hT : Tab w) : Calls Tryd.prog 148 #[.slice (some ⟨0, 0, none⟩) 10 10, strV l] w fun e w' => (∃ i : Int, e = .returned (.int .i64 i) ∧ (0 ≤ i ↔ l ∈ keyWords)) ∧ w = w' := by
  have HK := Lib.hid (show keyWords.length = 10 from rfl)
  go_enter Tryd.func148, Tryd.ntmps148
  go_wp2
  go_loopg [8] 10 (fun g vi wr => ∃ k : Nat, w = wr ∧ vi = .int .i64 k ∧ k ≤ 10 ∧ 10 - k ≤ g ∧ Hid (∀ j, j < k → keyWords.getD j [] ≠ l))
  case atStart => exact ⟨0, rfl, rfl, Nat.zero_le _, Nat.le_refl _, Lib.hid fun j hj => by omega⟩
  case round =>
    obtain ⟨k, rfl, rfl, hk, hg, V⟩ := hrel
    by_cases hlt : k < 10
    · have hltz : (k : Int) < 10 := by omega
      have c0 := hT.2 k hlt
      obtain ⟨kw, hkw⟩ : ∃ kw, keyWords.getD k [] = kw := ⟨_, rfl⟩
      rw [hkw] at c0
      have HKW := Lib.hid hkw
      clear hkw
      by_cases he : l = kw
      · have hq : (l == kw) = true := by rw [he]; simp
        have HM := Lib.hid (show l ∈ keyWords by
          rw [he, ← HKW.out, List.getD_eq_getElem?_getD, List.getElem?_eq_getElem (by rw [HK.out]; exact hlt)]; exact List.getElem_mem _)
        clear he
        go_wp2
        go_ret
        exact ⟨⟨_, rfl, ⟨fun _ => HM.out, fun _ => by omega⟩⟩, rfl⟩
      · have hq : (l == kw) = false := by simpa using he
        have VN := Lib.hid (show ∀ j, j < k + 1 → keyWords.getD j [] ≠ l from fun j hj => by
          rcases Nat.lt_or_eq_of_le (Nat.le_of_lt_succ hj) with hj | rfl
          · exact V.out j hj
          · exact fun e => he (by rw [← e, HKW.out]))
        clear he
        go_wp2
        go_roundg (10 - (k + 1))
        case measure => omega
        case rel => exact ⟨k + 1, rfl, by go_num, hlt, Nat.le_refl _, VN⟩
    · have hltz : ¬ (k : Int) < 10 := by omega
      have HM := Lib.hid (show ¬ l ∈ keyWords from fun h => by
        obtain ⟨j, hj, e⟩ := List.getElem_of_mem h
        refine V.out j (by rw [HK.out] at hj; omega) ?_
        rw [List.getD_eq_getElem?_getD, List.getElem?_eq_getElem hj]; exact e)
      go_wp2
      go_ret
      exact ⟨⟨_, rfl, ⟨fun h => by omega, fun h => absurd h HM.out⟩⟩, rfl⟩
theorem hasKey_any (l : List UInt8) (w : World) (hT : Tab w) : Calls Tryd.prog 139 #[.slice (some ⟨0, 0, none⟩) 10 10, strV l] w fun e w' => e = .returned (.bool (decide (l ∈ keyWords))) ∧ w = w' := by
  go_enter Tryd.func139, Tryd.ntmps139
  go_wp2_with fail
  refine (indexKey_any l _ hT).mono ?_
  rintro e w1 ⟨⟨i, rfl, hi⟩, rfl⟩
  have HI := Lib.hid (show decide (0 ≤ i) = decide (l ∈ keyWords) by rw [decide_eq_decide]; exact hi)
  clear hi
  go_wp2
  go_ret
  exact ⟨by rw [← HI.out]; rfl, rfl⟩
theorem head_of {c : UInt8} {r : List UInt8} (h1 : (c :: r).length ≤ 16) : headOk (c :: r) = (decide (97 ≤ c.toNat) && decide (c.toNat ≤ 122)) := by
  unfold headOk
  rw [decide_eq_true (show 1 ≤ (c :: r).length by simp), decide_eq_true h1, Bool.true_and, Bool.true_and]
theorem head_long {l : List UInt8} (h : ¬ l.length ≤ 16) : headOk l = false := by unfold headOk; rw [decide_eq_false h]; simp
theorem sym_head {l : List UInt8} (h : headOk l = false) : symB l = false := by unfold symB; rw [h]; simp
theorem sym_of {l : List UInt8} (h : headOk l = true) : symB l = (l.all isLetter && decide (l ∉ keyWords)) := by unfold symB; rw [h, Bool.true_and]
set_option maxHeartbeats 2000000 in
set_option maxRecDepth 1000000 in
theorem symbol_any (l : List UInt8) (hl : l.length ≤ 9223372036854775807) (w : World) (hT : Tab w) : Calls Tryd.prog 120 #[strV l] w fun e w' => e = .returned (.bool (symB l)) ∧ Below w.heap.size w w' := by
  cases l with
  | nil =>
    go_enter Tryd.func120, Tryd.ntmps120
    go_wp2
    go_ret
    exact ⟨rfl, Below.refl _ _⟩
  | cons c r =>
    obtain ⟨s, hs⟩ : ∃ s : ByteArray, s = ⟨(c :: r).toArray⟩ := ⟨_, rfl⟩
    have hsz : s.size = (c :: r).length := by rw [hs]; rfl
    have h0 : 0 < s.size := by rw [hsz]; simp
    have hc : (s[0]'h0) = c := by subst hs; rfl
    have hne : s.toList.isEmpty = false := by rw [Lib.toList_data, hs]; rfl
    have hK := hasKey_any (c :: r) w hT
    have hO := hasOdd_any (c :: r) w
    have HV : strV (c :: r) = .string s := by rw [hs]
    rw [HV] at hK hO
    rw [HV]
    rw [← hsz] at hl
    clear HV hs
    by_cases h16 : s.size ≤ 16
    · have q1 : decide ((16 : Int) < (s.size : Int)) = false := decide_eq_false (by omega)
      have hH := head_of (c := c) (r := r) (by omega)
      rw [← hc] at hH
      by_cases h97 : 97 ≤ (s[0]'h0).toNat
      · have q2 : decide (((s[0]'h0).toNat : Int) < 97) = false := decide_eq_false (by omega)
        by_cases h122 : (s[0]'h0).toNat ≤ 122
        · have q3 : decide ((122 : Int) < ((s[0]'h0).toNat : Int)) = false := decide_eq_false (by omega)
          have HS := Lib.hid (sym_of (l := c :: r) (by rw [show headOk (c :: r) = headOk (s[0] :: r) by rw [hc], hH, decide_eq_true h97, decide_eq_true h122]; rfl))
          clear hH hsz hc
          go_enter Tryd.func120, Tryd.ntmps120
          go_wp2_with fail
          refine hK.mono ?_
          rintro e w1 ⟨rfl, rfl⟩
          cases hk : decide (c :: r ∈ keyWords)
          · have RES := Lib.hid (show symB (c :: r) = (c :: r).all isLetter by rw [HS.out, decide_eq_true (p := c :: r ∉ keyWords) (by simpa using hk), Bool.and_true])
            clear hk
            go_wp2_with fail
            refine hO.mono ?_
            rintro e w2 ⟨rfl, B2⟩
            obtain ⟨q, hq⟩ : ∃ q, (c :: r).all isLetter = q := ⟨_, rfl⟩
            rw [hq] at RES
            rw [hq]
            clear hq
            go_wp2
            go_ret
            exact ⟨by rw [RES.out]; simp, B2⟩
          · have RES := Lib.hid (show symB (c :: r) = false by rw [HS.out, decide_eq_false (p := c :: r ∉ keyWords) (by simpa using hk), Bool.and_false])
            clear hk
            go_wp2
            go_ret
            exact ⟨by rw [RES.out]; rfl, Below.refl _ _⟩
        · have q3 : decide ((122 : Int) < ((s[0]'h0).toNat : Int)) = true := decide_eq_true (by omega)
          have RES := Lib.hid (sym_head (l := c :: r) (by rw [show headOk (c :: r) = headOk (s[0] :: r) by rw [hc], hH, decide_eq_false h122]; simp))
          clear hH hsz hc
          go_enter Tryd.func120, Tryd.ntmps120
          go_wp2
          go_ret
          exact ⟨by rw [RES.out]; rfl, Below.refl _ _⟩
      · have q2 : decide (((s[0]'h0).toNat : Int) < 97) = true := decide_eq_true (by omega)
        have RES := Lib.hid (sym_head (l := c :: r) (by rw [show headOk (c :: r) = headOk (s[0] :: r) by rw [hc], hH, decide_eq_false h97]; simp))
        clear hH hsz hc
        go_enter Tryd.func120, Tryd.ntmps120
        go_wp2
        go_ret
        exact ⟨by rw [RES.out]; rfl, Below.refl _ _⟩
    · have RES := Lib.hid (sym_head (head_long (l := c :: r) (by omega)))
      have q1 : decide ((16 : Int) < (s.size : Int)) = true := decide_eq_true (by omega)
      clear hsz hc
      go_enter Tryd.func120, Tryd.ntmps120
      go_wp2
      go_ret
      exact ⟨by rw [RES.out]; rfl, Below.refl _ _⟩
end Go.Proofs.YtdibijhaiaiifaaDoor
