/- The walks of the given program's add and ready. -/
import Derived.Test.YtnibgmmoebmnlaaWb
namespace Go.Proofs.Ytnibgmmoebmnlaa
open Go.RowKit
def addAll (s : Nm → Bool) (ts : List Tm) : Nm → Bool := fun y => s y || (decide (y ≠ noName) && ts.any fun t => decide (t.var = y))
theorem addAll_blank (s : Nm → Bool) (ts : List Tm) (t : Tm) (h : t.var = noName) (y : Nm) : addAll s ts y = addAll s (ts ++ [t]) y := by
  unfold addAll
  by_cases e : y = noName
  · simp [e]
  · have : ¬ t.var = y := fun e' => e (e'.symm.trans h)
    simp [this]
theorem addAll_full (s : Nm → Bool) (ts : List Tm) (t : Tm) (h : t.var ≠ noName) (y : Nm) : addOne (addAll s ts) t.var y = addAll s (ts ++ [t]) y := by
  unfold addAll addOne
  by_cases e : y = t.var
  · subst e; simp [h]
  · have : ¬ t.var = y := fun e' => e e'.symm
    simp [e, this]
theorem add_any (b n : Nat) (s : Nm → Bool) (l : Lt) (w : World) (hs : SetAt w b n s) (h : LitOk w l) (hn : n + l.targs.length ≤ 1000000) :
    Calls Try.prog 41 #[.map (some b), litV l] w fun e w' => e = .returned (.tuple #[]) ∧ SetAt w' b (n + l.targs.length) (addAll s l.targs) ∧ w.grownBy w' (some b) := by
  obtain ⟨a, c, ha, h, hm⟩ := h
  obtain ⟨lk, ln, lp, la, lt, lb, le, ll, lo, lat⟩ := l
  dsimp only at *
  subst ha
  unfold litV
  have hblt := hs.lt
  go_enter Try.func41, Try.ntmps41
  go_wp2
  go_loopw [9] (fun i wr => ∃ k : Nat, k ≤ lt.length ∧ i = .int .i64 k ∧ SetAt wr b (n + k) (addAll s (lt.take k)) ∧ w.grownBy wr (some b) ∧ w.heap.size + 1 ≤ wr.heap.size) (fun i _ => lt.length - (intOf i).toNat)
  case atStart => exact ⟨0, Nat.zero_le _, rfl, (hs.alloc _).congr (fun x => by simp [addAll]), World.grownBy_alloc w _ _, by simp⟩
  case round =>
    obtain ⟨k, hk, rfl, hset, hg, hsz⟩ := hrel
    by_cases hlt : k < lt.length
    · obtain ⟨b', off, rfl, c0, c1, c2, c3⟩ := terms_at (h.keep (hs.keeps hg)) (List.getElem?_eq_getElem hlt)
      have HT := Lib.hid (List.take_succ_eq_append_getElem hlt)
      generalize lt[k] = t at *
      by_cases he : t.var = noName
      · have hq := nm_blank he
        have HE := Lib.hid he
        clear he
        go_wp2
        go_roundw
        case rel => 
          refine ⟨k + 1, by omega, by go_num, ((hset.alloc _).mono (by omega)).congr (fun y => by rw [HT.out]; exact addAll_blank _ _ _ HE.out y), hg.trans (World.grownBy_alloc wr _ _), by simp; omega⟩
        case measure => simp [intOf]; omega
      · obtain ⟨hq, hq'⟩ := nm_full he
        have HE := Lib.hid he
        clear he
        obtain ⟨D, hown, hD⟩ := hset
        have hkm : n + k < maxLen := by unfold maxLen; omega
        go_wp2_with (at_mapUpdate; refine wpList_mapUpdate_own _ rfl _ _ _ 78 rfl 9 80 keyed9 Try.underlying78 (unitElem (H := Unit)) b (n + k) D rfl (hown.alloc _) hkm _ _ _ rfl rfl (keyOf9 t.var) _ [] unitElem_mk ?_; intro w1 hown1 hgrow1)
        go_roundw
        case rel => exact ⟨k + 1, by omega, by go_num, SetAt.congr ⟨_, hown1, has_put hown.isMap hD t.var _⟩ (fun y => by rw [HT.out]; exact addAll_full _ _ _ HE.out y), (hg.trans (World.grownBy_alloc wr _ _)).trans hgrow1, by have := hgrow1.size; simp at this; omega⟩
        case measure => simp [intOf]; omega
    · have e : k = lt.length := by omega
      subst e
      rw [List.take_length] at hset
      go_wp2
      go_end0
      exact ⟨rfl, hset, hg⟩
def ready (s : Nm → Bool) (l : Lt) : Bool :=
  if l.kind = 1 ∨ l.kind = 3 then true
  else if l.kind = 5 ∧ l.op = 1 ∧ l.targs.length = 2 then l.targs.any fun t => !lacks s t
  else !l.targs.any (lacks s)
theorem terms_pair {w : World} {b off : Nat} {t0 t1 : Tm} (h : RowsAt 4 encT w (some ⟨b, off, none⟩) [t0, t1]) :
    (w.cell? ⟨b, off, none⟩ = some (.string t0.var.1) ∧ w.cell? ⟨b, off + 1, none⟩ = some (.int .i64 t0.ty) ∧ w.cell? ⟨b, off + 2, none⟩ = some (.int .i64 t0.n) ∧ w.cell? ⟨b, off + 3, none⟩ = some (.string t0.s.1)) ∧
    w.cell? ⟨b, off + 4, none⟩ = some (.string t1.var.1) ∧ w.cell? ⟨b, off + 5, none⟩ = some (.int .i64 t1.ty) ∧ w.cell? ⟨b, off + 6, none⟩ = some (.int .i64 t1.n) ∧ w.cell? ⟨b, off + 7, none⟩ = some (.string t1.s.1) := by
  obtain ⟨b', off', he, c0, c1, c2, c3⟩ := terms_at h (i := 0) rfl
  obtain ⟨b'', off'', he', d0, d1, d2, d3⟩ := terms_at h (i := 1) rfl
  simp only [Option.some.injEq, Addr.mk.injEq] at he he'
  obtain ⟨rfl, rfl, -⟩ := he
  obtain ⟨rfl, rfl, -⟩ := he'
  simp only [Nat.zero_mul, Nat.add_zero, Nat.one_mul] at *
  exact ⟨⟨c0, c1, c2, c3⟩, d0, d1, d2, d3⟩
theorem ready_any (b n : Nat) (s : Nm → Bool) (l : Lt) (w : World) (hs : SetAt w b n s) (h : LitOk w l) :
    Calls Try.prog 40 #[.map (some b), litV l] w fun e w' => e = .returned (.bool (ready s l)) ∧ Below w.heap.size w w' := by
  have h0 := h
  obtain ⟨a, c, ha, h, hm⟩ := h
  obtain ⟨lk, ln, lp, la, lt, lb, le, ll, lo, lat⟩ := l
  unfold LitOk at h0
  dsimp only at *
  subst ha
  unfold litV
  have b0 : Below w.heap.size w (w.alloc (.cells #[.int .i64 lk, .string ln.1, .int .i64 lp, .slice a lt.length c, .string lb.1, .string le.1, .int .i64 ll, .int .i64 lo, .int .i64 lat] 58)) := (Below.refl _ _).alloc (Nat.le_refl _) _
  by_cases h1 : lk = 1
  · have HR := Lib.hid (show ready s ⟨lk, ln, lp, .slice a lt.length c, lt, lb, le, ll, lo, lat⟩ = true by simp [ready, h1])
    subst h1
    go_enter Try.func40, Try.ntmps40
    go_wp2
    go_ret
    exact ⟨ret_bool HR.out.symm, b0⟩
  by_cases h3 : lk = 3
  · have HR := Lib.hid (show ready s ⟨lk, ln, lp, .slice a lt.length c, lt, lb, le, ll, lo, lat⟩ = true by simp [ready, h3])
    subst h3
    go_enter Try.func40, Try.ntmps40
    go_wp2
    go_ret
    exact ⟨ret_bool HR.out.symm, b0⟩
  by_cases h5 : lk = 5 ∧ lo = 1 ∧ lt.length = 2
  · have HR := Lib.hid (show ready s ⟨lk, ln, lp, .slice a lt.length c, lt, lb, le, ll, lo, lat⟩ = lt.any (fun t => !lacks s t) by simp [ready, h5])
    obtain ⟨rfl, rfl, h2⟩ := h5
    obtain ⟨t0, t1, rfl⟩ : ∃ t0 t1, lt = [t0, t1] := by
      match lt, h2 with
      | [t0, t1], _ => exact ⟨t0, t1, rfl⟩
    have hb' := h
    obtain ⟨b', off, rfl, -⟩ := terms_at hb' (i := 0) rfl
    have k0 := fun w' (b : Below w.heap.size w w') => terms_pair (h.keep (keeps_below b))
    clear hb'
    simp only [List.length_cons, List.length_nil, Nat.zero_add, Nat.reduceAdd] at b0
    obtain ⟨⟨c0, c1, c2, c3⟩, d0, d1, d2, d3⟩ := k0 _ b0
    go_enter Try.func40, Try.ntmps40
    go_wp2_with fail
    refine (lacks_any b n s t0 _ (hs.alloc _)).mono ?_
    rintro e w1 ⟨rfl, b1⟩
    clear c0 c1 c2 c3 d0 d1 d2 d3
    have x3 := boxed (j := 3) rfl b1
    have b2 := below_trans b0 b1
    obtain ⟨⟨c0, c1, c2, c3⟩, d0, d1, d2, d3⟩ := k0 _ b2
    cases hq : lacks s t0
    · have HR' := Lib.hid (show ([t0, t1].any fun t => !lacks s t) = true by simp [hq])
      clear k0
      go_wp2
      go_ret
      exact ⟨ret_bool (HR.out.trans HR'.out).symm, b2⟩
    · have HR' := Lib.hid (show ([t0, t1].any fun t => !lacks s t) = !lacks s t1 by simp [hq])
      clear k0
      go_wp2_with fail
      refine (lacks_any b n s t1 _ (hs.keep b2)).mono ?_
      rintro e w2 ⟨rfl, b3⟩
      go_wp2
      go_ret
      exact ⟨ret_bool (HR.out.trans HR'.out).symm, below_trans b2 b3⟩
  · have HR := Lib.hid (show ready s ⟨lk, ln, lp, .slice a lt.length c, lt, lb, le, ll, lo, lat⟩ = !lt.any (lacks s) by unfold ready; dsimp only; rw [if_neg (by omega), if_neg h5])
    by_cases k5 : lk = 5
    · by_cases k1 : lo = 1
      · have k2 : ¬ lt.length = 2 := fun e => h5 ⟨k5, k1, e⟩
        have k2' : ¬ (lt.length : Int) = 2 := by omega
        subst k5 k1
        clear h5
        go_enter Try.func40, Try.ntmps40
        go_wp2_with fail
        refine (ContainsFunc_any b n s _ lt _ (hs.alloc _) (h0.keep (keeps_below b0))).mono ?_
        rintro e w1 ⟨rfl, b1⟩
        go_wp2
        go_ret
        exact ⟨ret_bool HR.out.symm, below_trans b0 b1⟩
      · subst k5
        clear h5
        have q1 := ne_beq k1
        go_enter Try.func40, Try.ntmps40
        go_wp2_with fail
        refine (ContainsFunc_any b n s _ lt _ (hs.alloc _) (h0.keep (keeps_below b0))).mono ?_
        rintro e w1 ⟨rfl, b1⟩
        go_wp2
        go_ret
        exact ⟨ret_bool HR.out.symm, below_trans b0 b1⟩
    · clear h5
      have q1 := ne_beq h1
      have q3 := ne_beq h3
      have q5 := ne_beq k5
      go_enter Try.func40, Try.ntmps40
      go_wp2_with fail
      refine (ContainsFunc_any b n s _ lt _ (hs.alloc _) (h0.keep (keeps_below b0))).mono ?_
      rintro e w1 ⟨rfl, b1⟩
      go_wp2
      go_ret
      exact ⟨ret_bool HR.out.symm, below_trans b0 b1⟩
end Go.Proofs.Ytnibgmmoebmnlaa
