/- The walks of the reference's Bind, known, Ready, copied. -/
import Derived.Test.YtnibgmmoebmnlaaWd
namespace Go.Proofs.Ytnibgmmoebmnlaa
open Go.RowKit
theorem moved_trans {w w1 : World} {v v1 v2 : Value} (h : Moved w v v1) (hs : w.heap.size ≤ w1.heap.size) (k : Moved w1 v1 v2) : Moved w v v2 := by
  rcases k with k | k
  · rcases h with h | h
    · exact .inl (k.trans h)
    · exact .inr fun j hj => h j (k ▸ hj)
  · exact .inr fun j hj => Nat.le_trans hs (k j hj)
theorem grown_trans {w w1 w2 : World} {v v1 : Value} (h : w.grownBy w1 v.ownBlock) (m : Moved w v v1) (k : w1.grownBy w2 v1.ownBlock) : w.grownBy w2 v.ownBlock :=
  h.andThen k fun j hj => by
    rcases m with m | m
    · exact .inr (m ▸ hj)
    · exact .inl (m j hj)
theorem moved_alloc {w : World} {o : Obj} {v v1 : Value} (h : Moved (w.alloc o) v v1) : Moved w v v1 := by
  rcases h with h | h
  · exact .inl h
  · exact .inr fun j hj => by have := h j hj; simp at this; omega
theorem grown_alloc {w w1 : World} {o : Obj} {row : Option Nat} (h : (w.alloc o).grownBy w1 row) : w.grownBy w1 row := (World.grownBy_alloc w o row).trans h
def bindN (l : List Nm) (ts : List Tm) : List Nm := ts.foldl (fun l t => addN l t.var) l
theorem bindN_le (l : List Nm) (ts : List Tm) : (bindN l ts).length ≤ l.length + ts.length := by
  unfold bindN
  induction ts generalizing l with
  | nil => simp
  | cons t r ih =>
    have := ih (addN l t.var)
    have := addN_le l t.var
    simp only [List.foldl_cons, List.length_cons]; omega
theorem bindN_snoc (l : List Nm) (ts : List Tm) (t : Tm) : bindN l (ts ++ [t]) = addN (bindN l ts) t.var := by simp [bindN]
set_option maxHeartbeats 1000000 in
theorem Bind_any (w0 : World) (v : Value) (l : List Nm) (q : Lt) (w : World) (h : OwnNames w w0.heap.size v l) (hq : LitOk w0 q) (hb0 : Below w0.heap.size w0 w) (hl : l.length + q.targs.length ≤ 1000000) :
    Calls Try.prog 37 #[v, litV q] w fun e w' => ∃ v', e = .returned v' ∧ OwnNames w' w0.heap.size v' (bindN l q.targs) ∧ w.grownBy w' v.ownBlock ∧ Moved w v v' := by
  obtain ⟨a, c, ha, hq, hm⟩ := hq
  obtain ⟨lk, ln, lp, la, lt, lb, le, ll, lo, lat⟩ := q
  dsimp only at *
  subst ha
  unfold litV
  have hvl := h.lt
  have hown := own_from h
  obtain ⟨wb, hwb⟩ : ∃ x : World, x = w.alloc (.cells #[.int .i64 lk, .string ln.1, .int .i64 lp, .slice a lt.length c, .string lb.1, .string le.1, .int .i64 ll, .int .i64 lo, .int .i64 lat] 58) := ⟨_, rfl⟩
  have hx : wb.cell? ⟨w.heap.size, 3, none⟩ = some (.slice a lt.length c) := by subst hwb; exact boxed (j := 3) rfl (Below.refl _ _)
  have hne : some w.heap.size ≠ v.ownBlock := fun e => by have := hvl _ e.symm; omega
  have hwbs : wb.heap.size = w.heap.size + 1 := by subst hwb; simp
  go_enter Try.func37, Try.ntmps37
  go_wp2
  go_loopw [0, 5] (fun vk i wr => ∃ k : Nat, k ≤ lt.length ∧ i = .int .i64 k ∧ OwnNames wr w0.heap.size vk (bindN l (lt.take k)) ∧ wb.grownBy wr v.ownBlock ∧ Moved wb v vk ∧ Below w0.heap.size w0 wr) (fun _ i _ => lt.length - (intOf i).toNat)
  case atStart =>
    rw [← hwb]
    refine ⟨0, Nat.zero_le _, rfl, ?_, World.grownBy.refl _ _, .inl rfl, ?_⟩
    · subst hwb; exact World.ownsRow.alloc h _
    · subst hwb; exact hb0.alloc hb0.size _
  case round =>
    obtain ⟨k, hk, rfl, hown', hg, hmv, hb⟩ := hrel
    have hx3 := hg.cell hx hne
    by_cases hlt : k < lt.length
    · obtain ⟨b', off, rfl, c0, c1, c2, c3⟩ := terms_at (hq.keep (keeps_below hb)) (List.getElem?_eq_getElem hlt)
      have HT := Lib.hid (List.take_succ_eq_append_getElem hlt)
      generalize lt[k] = t at *
      have hle := bindN_le l (lt.take k)
      have hle' : (lt.take k).length ≤ k := by rw [List.length_take]; omega
      go_wp2_with fail
      refine (radd_any _ _ (bindN l (lt.take k)) t.var _ hown' (by omega) hb.size).mono ?_
      rintro e w1 ⟨v', rfl, h1, g1, m1⟩
      go_wp2
      go_roundw
      case rel =>
        refine ⟨k + 1, by omega, by go_num, by rw [HT.out, bindN_snoc]; exact h1, grown_trans hg hmv g1, moved_trans hmv hg.size m1, hb.grown g1 hb.size ?_⟩
        exact own_from hown'
      case measure => simp [intOf]; omega
    · have e : k = lt.length := by omega
      subst e
      rw [List.take_length] at hown'
      go_wp2
      go_ret
      subst hwb
      exact ⟨_, rfl, hown', grown_alloc hg, moved_alloc hmv⟩
def known (l : List Nm) (t : Tm) : Bool := !lacks (ofList l) t
theorem known_any (v : Value) (l : List Nm) (t : Tm) (w : World) (h : IsNames w v l) :
    Calls Try.prog 47 #[v, termV t] w fun e w' => e = .returned (.bool (known l t)) ∧ Below w.heap.size w w' := by
  unfold termV
  have b0 : Below w.heap.size w (w.alloc (.cells #[.string t.var.1, .int .i64 t.ty, .int .i64 t.n, .string t.s.1] 69)) := (Below.refl _ _).alloc (Nat.le_refl _) _
  by_cases he : t.var = noName
  · have HK := Lib.hid (show known l t = true by simp [known, lacks, he])
    have hn := nm_blank he
    clear he
    go_enter Try.func47, Try.ntmps47
    go_wp2
    go_ret
    exact ⟨ret_bool HK.out.symm, b0⟩
  · have HK := Lib.hid (show known l t = decide (t.var ∈ l) by simp [known, lacks, he, ofList])
    obtain ⟨hn, hn'⟩ := nm_full he
    clear he
    go_enter Try.func47, Try.ntmps47
    go_wp2_with fail
    refine (In_any v l t.var _ (h.keep (keeps_below b0))).mono ?_
    rintro e w1 ⟨rfl, b1⟩
    go_wp2
    go_ret
    exact ⟨ret_bool HK.out.symm, below_trans b0 b1⟩
theorem known_is (l : List Nm) (t : Tm) : lacks (ofList l) t = !known l t := by simp [known]
theorem Ready_any (v : Value) (nl : List Nm) (l : Lt) (w : World) (hs : IsNames w v nl) (h : LitOk w l) :
    Calls Try.prog 43 #[v, litV l] w fun e w' => e = .returned (.bool (ready (ofList nl) l)) ∧ Below w.heap.size w w' := by
  have h0 := h
  obtain ⟨a, c, ha, h, hm⟩ := h
  obtain ⟨lk, ln, lp, la, lt, lb, le, ll, lo, lat⟩ := l
  unfold LitOk at h0
  dsimp only at *
  subst ha
  unfold litV
  have b0 : Below w.heap.size w (w.alloc (.cells #[.int .i64 lk, .string ln.1, .int .i64 lp, .slice a lt.length c, .string lb.1, .string le.1, .int .i64 ll, .int .i64 lo, .int .i64 lat] 58)) := (Below.refl _ _).alloc (Nat.le_refl _) _
  by_cases h1 : lk = 1
  · have HR := Lib.hid (show ready (ofList nl) ⟨lk, ln, lp, .slice a lt.length c, lt, lb, le, ll, lo, lat⟩ = true by simp [ready, h1])
    subst h1
    go_enter Try.func43, Try.ntmps43
    go_wp2
    go_ret
    exact ⟨by rw [HR.out]; rfl, b0⟩
  by_cases h3 : lk = 3
  · have HR := Lib.hid (show ready (ofList nl) ⟨lk, ln, lp, .slice a lt.length c, lt, lb, le, ll, lo, lat⟩ = true by simp [ready, h3])
    subst h3
    go_enter Try.func43, Try.ntmps43
    go_wp2
    go_ret
    exact ⟨by rw [HR.out]; rfl, b0⟩
  by_cases h5 : lk = 5 ∧ lo = 1 ∧ lt.length = 2
  · have HR := Lib.hid (show ready (ofList nl) ⟨lk, ln, lp, .slice a lt.length c, lt, lb, le, ll, lo, lat⟩ = lt.any (fun t => !lacks (ofList nl) t) by simp [ready, h5])
    obtain ⟨rfl, rfl, h2⟩ := h5
    obtain ⟨t0, t1, rfl⟩ : ∃ t0 t1, lt = [t0, t1] := by
      match lt, h2 with
      | [t0, t1], _ => exact ⟨t0, t1, rfl⟩
    have hb' := h
    obtain ⟨b', off, rfl, -⟩ := terms_at hb' (i := 0) rfl
    have k0 := fun w' (b : Below w.heap.size w w') => terms_pair (h.keep (keeps_below b))
    clear hb'
    simp only [List.length_cons, List.length_nil, Nat.zero_add, Nat.reduceAdd] at b0
    obtain ⟨⟨c0, c1, c2, c3⟩, d0, d1, d2, d3⟩ := k0 _ b0
    go_enter Try.func43, Try.ntmps43
    go_wp2_with fail
    refine (known_any v nl t0 _ (hs.keep (keeps_below b0))).mono ?_
    rintro e w1 ⟨rfl, b1⟩
    clear c0 c1 c2 c3 d0 d1 d2 d3
    have x3 := boxed (j := 3) rfl b1
    have b2 := below_trans b0 b1
    obtain ⟨⟨c0, c1, c2, c3⟩, d0, d1, d2, d3⟩ := k0 _ b2
    cases hq : known nl t0
    · have HR' := Lib.hid (show ([t0, t1].any fun t => !lacks (ofList nl) t) = known nl t1 by simp [known_is, hq])
      clear k0
      go_wp2_with fail
      refine (known_any v nl t1 _ (hs.keep (keeps_below b2))).mono ?_
      rintro e w2 ⟨rfl, b3⟩
      go_wp2
      go_ret
      exact ⟨ret_bool (HR.out.trans HR'.out).symm, below_trans b2 b3⟩
    · have HR' := Lib.hid (show ([t0, t1].any fun t => !lacks (ofList nl) t) = true by simp [known_is, hq])
      clear k0
      go_wp2
      go_ret
      exact ⟨ret_bool (HR.out.trans HR'.out).symm, b2⟩
  · have HR := Lib.hid (show ready (ofList nl) ⟨lk, ln, lp, .slice a lt.length c, lt, lb, le, ll, lo, lat⟩ = !lt.any (lacks (ofList nl)) by unfold ready; dsimp only; rw [if_neg (by omega), if_neg h5])
    by_cases k5 : lk = 5
    · by_cases k1 : lo = 1
      · have k2 : ¬ lt.length = 2 := fun e => h5 ⟨k5, k1, e⟩
        have q2 := ne_beq (show ¬ (lt.length : Int) = 2 by omega)
        subst k5 k1
        clear h5
        go_enter Try.func43, Try.ntmps43
        go_wp2
        go_loopw [5] (fun i wr => ∃ k : Nat, k ≤ lt.length ∧ i = .int .i64 k ∧ (∀ y ∈ lt.take k, lacks (ofList nl) y = false) ∧ Below (w.alloc (.cells #[.int .i64 5, .string ln.1, .int .i64 lp, .slice a lt.length c, .string lb.1, .string le.1, .int .i64 ll, .int .i64 1, .int .i64 lat] 58)).heap.size (w.alloc (.cells #[.int .i64 5, .string ln.1, .int .i64 lp, .slice a lt.length c, .string lb.1, .string le.1, .int .i64 ll, .int .i64 1, .int .i64 lat] 58)) wr) (fun i _ => lt.length - (intOf i).toNat)
        case atStart => exact ⟨0, Nat.zero_le _, rfl, by simp, Below.refl _ _⟩
        case round =>
          obtain ⟨k, hk, rfl, hno, hbb⟩ := hrel
          have x3 := boxed (j := 3) rfl hbb
          have hb := below_trans b0 hbb
          by_cases hlt : k < lt.length
          · obtain ⟨b', off, rfl, c0, c1, c2, c3⟩ := terms_at (h.keep (keeps_below hb)) (List.getElem?_eq_getElem hlt)
            have hyes := fun (e : lacks (ofList nl) lt[k] = true) => Lib.hid (show lt.any (lacks (ofList nl)) = true from List.any_eq_true.2 ⟨lt[k], List.getElem_mem hlt, e⟩)
            have hno' := take_ext (p := fun y => lacks (ofList nl) y = false) hlt hno
            generalize lt[k] = t at *
            go_wp2_with fail
            refine (known_any v nl t _ (hs.keep (keeps_below hb))).mono ?_
            rintro e w1 ⟨rfl, b1⟩
            cases hq : known nl t
            · have HC := hyes (by rw [known_is, hq]; rfl)
              clear hyes hno'
              go_wp2
              go_ret
              exact ⟨ret_bool (by rw [HR.out, HC.out]; rfl), hb.trans (b1.mono hb.size)⟩
            · have hno' := hno' (by rw [known_is, hq]; rfl)
              clear hyes
              go_wp2
              go_roundw
              case rel => exact ⟨k + 1, by omega, by go_num, hno', hbb.trans (b1.mono hbb.size)⟩
              case measure => simp [intOf]; omega
          · have e : k = lt.length := by omega
            subst e
            rw [List.take_length] at hno
            have HC := Lib.hid (show lt.any (lacks (ofList nl)) = false from List.any_eq_false.2 (by simpa using hno))
            go_wp2
            go_ret
            exact ⟨ret_bool (by rw [HR.out, HC.out]; rfl), hb⟩
      · subst k5
        clear h5
        have q1 := ne_beq k1
        go_enter Try.func43, Try.ntmps43
        go_wp2
        go_loopw [5] (fun i wr => ∃ k : Nat, k ≤ lt.length ∧ i = .int .i64 k ∧ (∀ y ∈ lt.take k, lacks (ofList nl) y = false) ∧ Below (w.alloc (.cells #[.int .i64 5, .string ln.1, .int .i64 lp, .slice a lt.length c, .string lb.1, .string le.1, .int .i64 ll, .int .i64 lo, .int .i64 lat] 58)).heap.size (w.alloc (.cells #[.int .i64 5, .string ln.1, .int .i64 lp, .slice a lt.length c, .string lb.1, .string le.1, .int .i64 ll, .int .i64 lo, .int .i64 lat] 58)) wr) (fun i _ => lt.length - (intOf i).toNat)
        case atStart => exact ⟨0, Nat.zero_le _, rfl, by simp, Below.refl _ _⟩
        case round =>
          obtain ⟨k, hk, rfl, hno, hbb⟩ := hrel
          have x3 := boxed (j := 3) rfl hbb
          have hb := below_trans b0 hbb
          by_cases hlt : k < lt.length
          · obtain ⟨b', off, rfl, c0, c1, c2, c3⟩ := terms_at (h.keep (keeps_below hb)) (List.getElem?_eq_getElem hlt)
            have hyes := fun (e : lacks (ofList nl) lt[k] = true) => Lib.hid (show lt.any (lacks (ofList nl)) = true from List.any_eq_true.2 ⟨lt[k], List.getElem_mem hlt, e⟩)
            have hno' := take_ext (p := fun y => lacks (ofList nl) y = false) hlt hno
            generalize lt[k] = t at *
            go_wp2_with fail
            refine (known_any v nl t _ (hs.keep (keeps_below hb))).mono ?_
            rintro e w1 ⟨rfl, b1⟩
            cases hq : known nl t
            · have HC := hyes (by rw [known_is, hq]; rfl)
              clear hyes hno'
              go_wp2
              go_ret
              exact ⟨ret_bool (by rw [HR.out, HC.out]; rfl), hb.trans (b1.mono hb.size)⟩
            · have hno' := hno' (by rw [known_is, hq]; rfl)
              clear hyes
              go_wp2
              go_roundw
              case rel => exact ⟨k + 1, by omega, by go_num, hno', hbb.trans (b1.mono hbb.size)⟩
              case measure => simp [intOf]; omega
          · have e : k = lt.length := by omega
            subst e
            rw [List.take_length] at hno
            have HC := Lib.hid (show lt.any (lacks (ofList nl)) = false from List.any_eq_false.2 (by simpa using hno))
            go_wp2
            go_ret
            exact ⟨ret_bool (by rw [HR.out, HC.out]; rfl), hb⟩
    · clear h5
      have q1 := ne_beq h1
      have q3 := ne_beq h3
      have q5 := ne_beq k5
      go_enter Try.func43, Try.ntmps43
      go_wp2
      go_loopw [5] (fun i wr => ∃ k : Nat, k ≤ lt.length ∧ i = .int .i64 k ∧ (∀ y ∈ lt.take k, lacks (ofList nl) y = false) ∧ Below (w.alloc (.cells #[.int .i64 lk, .string ln.1, .int .i64 lp, .slice a lt.length c, .string lb.1, .string le.1, .int .i64 ll, .int .i64 lo, .int .i64 lat] 58)).heap.size (w.alloc (.cells #[.int .i64 lk, .string ln.1, .int .i64 lp, .slice a lt.length c, .string lb.1, .string le.1, .int .i64 ll, .int .i64 lo, .int .i64 lat] 58)) wr) (fun i _ => lt.length - (intOf i).toNat)
      case atStart => exact ⟨0, Nat.zero_le _, rfl, by simp, Below.refl _ _⟩
      case round =>
        obtain ⟨k, hk, rfl, hno, hbb⟩ := hrel
        have x3 := boxed (j := 3) rfl hbb
        have hb := below_trans b0 hbb
        by_cases hlt : k < lt.length
        · obtain ⟨b', off, rfl, c0, c1, c2, c3⟩ := terms_at (h.keep (keeps_below hb)) (List.getElem?_eq_getElem hlt)
          have hyes := fun (e : lacks (ofList nl) lt[k] = true) => Lib.hid (show lt.any (lacks (ofList nl)) = true from List.any_eq_true.2 ⟨lt[k], List.getElem_mem hlt, e⟩)
          have hno' := take_ext (p := fun y => lacks (ofList nl) y = false) hlt hno
          generalize lt[k] = t at *
          go_wp2_with fail
          refine (known_any v nl t _ (hs.keep (keeps_below hb))).mono ?_
          rintro e w1 ⟨rfl, b1⟩
          cases hq : known nl t
          · have HC := hyes (by rw [known_is, hq]; rfl)
            clear hyes hno'
            go_wp2
            go_ret
            exact ⟨ret_bool (by rw [HR.out, HC.out]; rfl), hb.trans (b1.mono hb.size)⟩
          · have hno' := hno' (by rw [known_is, hq]; rfl)
            clear hyes
            go_wp2
            go_roundw
            case rel => exact ⟨k + 1, by omega, by go_num, hno', hbb.trans (b1.mono hbb.size)⟩
            case measure => simp [intOf]; omega
        · have e : k = lt.length := by omega
          subst e
          rw [List.take_length] at hno
          have HC := Lib.hid (show lt.any (lacks (ofList nl)) = false from List.any_eq_false.2 (by simpa using hno))
          go_wp2
          go_ret
          exact ⟨ret_bool (by rw [HR.out, HC.out]; rfl), hb⟩
end Go.Proofs.Ytnibgmmoebmnlaa
