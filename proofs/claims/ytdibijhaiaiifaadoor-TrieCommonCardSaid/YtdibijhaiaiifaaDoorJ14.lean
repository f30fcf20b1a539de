/- Parts Pr, Qa, Qb, Qc: words, walks and laws that the claims of this seat share. -/
import Derived.Test.YtdibijhaiaiifaaDoorJ13
import Derived.Test.YtdibijhaiaiifaaDoorJ12
/- Plain laws of the reference of relations: Put, Of, and what follows from them. -/
namespace Go.Proofs.YtdibijhaiaiifaaDoor
section
variable {xs ys zs out : List RR} {t : Tp} {s : List Sp} {i : Nat} {done : Bool} {x r : RR}
/-- What Put has made before row i. -/
structure PutI (xs : List RR) (t : Tp) (s : List Sp) (i : Nat) (done : Bool) (out : List RR) : Prop where
  can : IsCan (rows out)
  mom : ∀ t' k, k < 64 → mom (rows out) t' k = if t' = t then (done && setOf s k) else mom (rows (xs.take i)) t' k
  lt : ∀ y ∈ out, ∀ z ∈ xs.drop i, cmpT y.t z.t < 0 ∨ z.t = t
  cur : done = false → ∀ y ∈ out, cmpT y.t t < 0
  len : out.length ≤ i + (if done then 1 else 0)
  each : ∀ y ∈ out, (y.t = t ∧ y.s = s) ∨ y ∈ xs
theorem PutI.start (xs : List RR) (t : Tp) (s : List Sp) : PutI xs t s 0 false [] := ⟨⟨trivial, by simp [rows]⟩, fun t' k _ => by simp [rows, mom_nil], by simp, by simp, by simp, by simp⟩
theorem PutI.new (h : PutI xs t s i false out) (hs : OkW s) (hi : ∀ z ∈ xs.drop i, cmpT t z.t < 0 ∨ z.t = t) (hrt : r.t = t) (hrs : r.s = s) : PutI xs t s i true (out ++ [r]) := by
  refine ⟨can_snoc h.can (by rw [hrt]; exact h.cur rfl) (by rw [hrs]; exact hs), fun t' k hk => ?_, fun y hy z hz => ?_, (fun e => by cases e), ?_, fun y hy => ?_⟩
  · rw [rows_append, mom_append, h.mom t' k hk, mom_one, hrt, hrs]
    by_cases e : t' = t
    · subst e
      rw [if_pos rfl, if_pos rfl, decide_eq_true rfl]; rfl
    · rw [if_neg e, if_neg e, decide_eq_false (fun e' => e e'.symm), Bool.false_and, Bool.or_false]
  · rcases List.mem_append.1 hy with hy | hy
    · exact h.lt y hy z hz
    · rw [List.mem_singleton.1 hy, hrt]; exact hi z hz
  · have := h.len; rw [List.length_append]; simp at this ⊢; omega
  · rcases List.mem_append.1 hy with hy | hy
    · exact h.each y hy
    · rw [List.mem_singleton.1 hy]; exact .inl ⟨hrt, hrs⟩
theorem PutI.none (h : PutI xs t s i false out) (hs : s = []) : PutI xs t s i true out := by
  refine ⟨h.can, fun t' k hk => ?_, h.lt, (fun e => by cases e), by have := h.len; simp at this ⊢; omega, h.each⟩
  rw [h.mom t' k hk, hs, setOf_nil]; rfl
theorem mom_next (hx : xs[i]? = some x) (t' : Tp) (k : Nat) : mom (rows (xs.take (i + 1))) t' k = (mom (rows (xs.take i)) t' k || (decide (x.t = t') && setOf x.s k)) := by rw [take_succ' hx, rows_append, mom_append, mom_one]
theorem drop_next (hx : xs[i]? = some x) : xs.drop i = x :: xs.drop (i + 1) := by
  obtain ⟨hl, e⟩ := List.getElem?_eq_some_iff.1 hx
  rw [List.drop_eq_getElem_cons hl, e]
theorem PutI.skip (h : PutI xs t s i true out) (hx : xs[i]? = some x) (he : x.t = t) : PutI xs t s (i + 1) true out := by
  refine ⟨h.can, fun t' k hk => ?_, fun y hy z hz => h.lt y hy z (by rw [drop_next hx]; exact List.mem_cons_of_mem _ hz), (fun e => by cases e), by have := h.len; omega, h.each⟩
  rw [h.mom t' k hk, mom_next hx]
  by_cases e : t' = t
  · rw [if_pos e, if_pos e]
  · rw [if_neg e, if_neg e, he, decide_eq_false (fun e' => e e'.symm), Bool.false_and, Bool.or_false]
theorem up_drop : ∀ {l : List RR} {i : Nat} {x : RR}, Up (rows l) → l[i]? = some x → ∀ z ∈ l.drop (i + 1), cmpT x.t z.t < 0
  | y :: l, 0, x, h, hx, z, hz => by
    have e : y = x := by simpa using hx
    subst e
    exact up_head h z (by simpa using hz)
  | y :: l, i + 1, x, h, hx, z, hz => up_drop (l := l) (i := i) h.2 (by simpa using hx) z (by simpa using hz)
theorem PutI.row (h : PutI xs t s i done out) (hc : IsCan (rows xs)) (hx : xs[i]? = some x) (he : x.t ≠ t) (hd : done = false → cmpT x.t t < 0) : PutI xs t s (i + 1) done (out ++ [x]) := by
  have hm : x ∈ xs := List.mem_of_getElem? hx
  refine ⟨can_snoc h.can (fun y hy => (h.lt y hy x (by rw [drop_next hx]; simp)).resolve_right he) (hc.2 x.rw (mem_rows.2 ⟨x, hm, rfl⟩)), fun t' k hk => ?_, fun y hy z hz => ?_, fun e y hy => ?_, ?_, fun y hy => ?_⟩
  · rw [rows_append, mom_append, h.mom t' k hk, mom_next hx, mom_one]
    by_cases e : t' = t
    · subst e
      rw [if_pos rfl, if_pos rfl, decide_eq_false he, Bool.false_and, Bool.or_false]
    · rw [if_neg e, if_neg e]
  · rcases List.mem_append.1 hy with hy | hy
    · exact h.lt y hy z (by rw [drop_next hx]; exact List.mem_cons_of_mem _ hz)
    · rw [List.mem_singleton.1 hy]; exact .inl (up_drop hc.1 hx z hz)
  · rcases List.mem_append.1 hy with hy | hy
    · exact h.cur e y hy
    · rw [List.mem_singleton.1 hy]; exact hd e
  · have := h.len; rw [List.length_append]; simp at this ⊢; omega
  · rcases List.mem_append.1 hy with hy | hy
    · exact h.each y hy
    · rw [List.mem_singleton.1 hy]; exact .inr hm
/-- What Put gives. -/
structure PutOf (xs : List RR) (t : Tp) (s : List Sp) (zs : List RR) : Prop where
  can : IsCan (rows zs)
  mom : ∀ t' k, k < 64 → mom (rows zs) t' k = if t' = t then setOf s k else mom (rows xs) t' k
  sml : ∀ n, Sml n xs → t.length ≤ 64 → s.length ≤ 64 → Sml (n + 1) zs
theorem PutI.whole (h : PutI xs t s i true out) (hi : xs.length = i) : PutOf xs t s out := by
  refine ⟨h.can, fun t' k hk => ?_, fun n hn ht hs => ⟨?_, fun y hy => ?_⟩⟩
  · rw [h.mom t' k hk, Bool.true_and, List.take_of_length_le (by omega)]
  · have := h.len; have := hn.len; simp at *; omega
  · rcases h.each y hy with ⟨e1, e2⟩ | h
    · rw [e1, e2]; exact ⟨ht, hs⟩
    · exact hn.each y h
theorem drop_ge (hc : IsCan (rows xs)) (hx : xs[i]? = some x) (hle : cmpT t x.t ≤ 0) : ∀ z ∈ xs.drop i, cmpT t z.t < 0 ∨ z.t = t := by
  intro z hz
  rw [drop_next hx] at hz
  rcases List.mem_cons.1 hz with rfl | hz
  · rcases Int.lt_or_eq_of_le hle with h | h
    · exact .inl h
    · exact .inr ((cmpT_is.eq _ _).1 h).symm
  · exact .inl (cmpT_is.le_lt hle (up_drop hc.1 hx z hz))
/-- What Of has made before row i. -/
structure OfI (xs : List RR) (i : Nat) (out : List RR) : Prop where
  can : IsCan (rows out)
  mom : ∀ t k, k < 64 → mom (rows out) t k = (decide (∃ y ∈ xs.take i, y.t = t) && mom (rows xs) t k)
  sml : (∀ x ∈ xs, x.t.length ≤ 64) → Sml i out
theorem OfI.start (xs : List RR) : OfI xs 0 [] := ⟨⟨trivial, by simp [rows]⟩, fun t k _ => by simp [rows, mom_nil], fun _ => ⟨by simp, by simp⟩⟩
theorem OfI.step (h : OfI xs i out) (hx : xs[i]? = some x) (hp : PutOf out x.t (canon fun k => YtdibijhaiaiifaaDoor.mom (rows xs) x.t k) zs) : OfI xs (i + 1) zs := by
  refine ⟨hp.can, fun t k hk => ?_, fun ha => hp.sml i (h.sml ha) (ha x (List.mem_of_getElem? hx)) (Nat.le_trans (canon_le _) (by omega))⟩
  rw [hp.mom t k hk, h.mom t k hk, take_succ' hx]
  by_cases e : t = x.t
  · subst e
    rw [if_pos rfl, setOf_canon _ k hk, decide_eq_true ⟨x, by simp, rfl⟩]; rfl
  · rw [if_neg e]
    congr 1
    rw [Bool.eq_iff_iff, decide_eq_true_iff, decide_eq_true_iff]
    constructor
    · rintro ⟨y, hy, e⟩; exact ⟨y, List.mem_append_left _ hy, e⟩
    · rintro ⟨y, hy, e'⟩
      rcases List.mem_append.1 hy with hy | hy
      · exact ⟨y, hy, e'⟩
      · rw [List.mem_singleton.1 hy] at e'; exact absurd e'.symm e
theorem mom_some {l : List RR} {t : Tp} {k : Nat} (h : mom (rows l) t k = true) : ∃ y ∈ l, y.t = t := by
  unfold YtdibijhaiaiifaaDoor.mom at h
  rw [List.any_eq_true] at h
  obtain ⟨y, hy, e⟩ := h
  obtain ⟨z, hz, rfl⟩ := mem_rows.1 hy
  rw [Bool.and_eq_true, decide_eq_true_eq] at e
  exact ⟨z, hz, e.1⟩
theorem OfI.whole (h : OfI xs i out) (hi : xs.length = i) : CanOf xs out := by
  refine ⟨h.can, fun t k hk => ?_, fun n hn => ?_⟩
  · rw [h.mom t k hk, List.take_of_length_le (by omega)]
    cases e : YtdibijhaiaiifaaDoor.mom (rows xs) t k with
    | false => exact Bool.and_false _
    | true => rw [decide_eq_true (mom_some e)]; rfl
  · have h1 := h.sml fun x hx => (hn.each x hx).1
    have := hn.len
    exact ⟨by have := h1.len; omega, h1.each⟩
variable {ns : List RR} {s' : List Sp}
/-- Insert and Remove of the reference. -/
theorem ins_of {op : Bool → Bool → Bool} (ho : ∀ b, op b false = b) (hn : CanOf xs ns) (hp : PutOf ns t (canon fun k => op (setOf (canon fun k => mom (rows xs) t k) k) (setOf s k)) zs) : OpOf op xs [rr t s] zs := by
  refine ⟨hp.can, fun t' k hk => ?_, fun n m hn' hm => ?_⟩
  · rw [hp.mom t' k hk]
    by_cases e : t' = t
    · subst e
      rw [if_pos rfl, setOf_canon _ k hk, setOf_canon _ k hk, one_self]
    · rw [if_neg e, one_other (fun e' => e e'.symm), ho, hn.mom t' k hk]
  · have h1 := hm.len
    have h2 := (hm.each (rr t s) (by simp)).1
    exact (hp.sml n (hn.sml n hn') h2 (Nat.le_trans (canon_le _) (by omega))).mono (by simp at h1; omega)
/-- What the loops over Insert and Remove have made before row i. -/
structure CatI (op : Bool → Bool → Bool) (xs ys : List RR) (i : Nat) (out : List RR) : Prop where
  can : IsCan (rows out)
  mom : ∀ t k, k < 64 → mom (rows out) t k = op (mom (rows xs) t k) (mom (rows (ys.take i)) t k)
  sml : ∀ n, Sml n xs → (∀ y ∈ ys, y.t.length ≤ 64 ∧ y.s.length ≤ 64) → Sml (n + i) out
theorem CatI.start {op : Bool → Bool → Bool} (ho : ∀ b, op b false = b) (h : CanOf xs ns) (ys : List RR) : CatI op xs ys 0 ns := ⟨h.can, fun t k hk => by rw [h.mom t k hk]; simp [rows, mom_nil, ho], fun n hn _ => h.sml n hn⟩
theorem CatI.step {op : Bool → Bool → Bool} (ha : ∀ a b c, op (op a b) c = op a (b || c)) (h : CatI op xs ys i out) (hx : ys[i]? = some x) (hp : OpOf op out [rr x.t x.s] zs) : CatI op xs ys (i + 1) zs := by
  refine ⟨hp.can, fun t k hk => ?_, fun n hn hy => ?_⟩
  · rw [hp.mom t k hk, h.mom t k hk, ha, mom_next hx, mom_one]; rfl
  · obtain ⟨h1, h2⟩ := hy x (List.mem_of_getElem? hx)
    exact (hp.sml _ 1 (h.sml n hn hy) (Sml.one h1 h2 (Nat.le_refl _))).mono (by omega)
theorem CatI.whole {op : Bool → Bool → Bool} (h : CatI op xs ys i out) (hi : ys.length = i) : OpOf op xs ys out := by
  refine ⟨h.can, fun t k hk => by rw [h.mom t k hk, List.take_of_length_le (by omega)], fun n m hn hm => ?_⟩
  have h1 := h.sml n hn hm.each
  exact h1.mono (by have := hm.len; omega)
/-- What Meet has made before row i of the canonical list. -/
structure MeetI (ls ys : List RR) (i : Nat) (out : List RR) : Prop where
  can : IsCan (rows out)
  mom : ∀ t k, k < 64 → mom (rows out) t k = (mom (rows ls) t k && (decide (¬ ∃ y ∈ ls.take i, y.t = t) || mom (rows ys) t k))
  sml : ∀ n, Sml n ls → Sml (n + i) out
theorem MeetI.start (hc : IsCan (rows zs)) (ys : List RR) : MeetI zs ys 0 zs := ⟨hc, fun t k _ => by simp, fun _ h => h⟩
theorem mom_at : ∀ {l : List RR} {i : Nat} {x : RR}, Up (rows l) → l[i]? = some x → ∀ k, mom (rows l) x.t k = setOf x.s k
  | y :: l, 0, x, h, hx, k => by
    have e : y = x := by simpa using hx
    subst e
    exact mom_head h k
  | y :: l, i + 1, x, h, hx, k => by
    have hx' : l[i]? = some x := by simpa using hx
    have hlt := up_head h x (List.mem_of_getElem? hx')
    rw [rows_cons, mom_tail (fun e => by
      have e' : y.t = x.t := e
      rw [e', cmpT_is.refl] at hlt; omega)]
    exact mom_at h.2 hx' k
theorem MeetI.step (hc : IsCan (rows xs)) (h : MeetI xs ys i out) (hx : xs[i]? = some x) (ht : x.t.length ≤ 64) (hp : PutOf out x.t (canon fun k => setOf x.s k && setOf (canon fun k => YtdibijhaiaiifaaDoor.mom (rows ys) x.t k) k) zs) : MeetI xs ys (i + 1) zs := by
  refine ⟨hp.can, fun t k hk => ?_, fun n hn => hp.sml _ (h.sml n hn) ht (Nat.le_trans (canon_le _) (by omega))⟩
  rw [hp.mom t k hk, h.mom t k hk, take_succ' hx]
  by_cases e : t = x.t
  · subst e
    have hex : ∃ y ∈ xs.take i ++ [x], y.t = x.t := ⟨x, by simp, rfl⟩
    rw [if_pos rfl, setOf_canon _ k hk, setOf_canon _ k hk, decide_eq_false (fun hn => hn hex), Bool.false_or, mom_at hc.1 hx]
  · rw [if_neg e]
    have : (∃ y ∈ xs.take i ++ [x], y.t = t) ↔ ∃ y ∈ xs.take i, y.t = t := by
      constructor
      · rintro ⟨y, hy, e'⟩
        rcases List.mem_append.1 hy with hy | hy
        · exact ⟨y, hy, e'⟩
        · rw [List.mem_singleton.1 hy] at e'; exact absurd e'.symm e
      · rintro ⟨y, hy, e⟩; exact ⟨y, List.mem_append_left _ hy, e⟩
    simp only [this]
theorem MeetI.whole {al : List RR} (hn : CanOf al xs) (h : MeetI xs ys i out) (hi : xs.length = i) : ∀ t k, k < 64 → YtdibijhaiaiifaaDoor.mom (rows out) t k = opM (YtdibijhaiaiifaaDoor.mom (rows al) t k) (YtdibijhaiaiifaaDoor.mom (rows ys) t k) := by
  intro t k hk
  rw [h.mom t k hk, List.take_of_length_le (by omega), ← hn.mom t k hk]
  unfold opM
  cases e : YtdibijhaiaiifaaDoor.mom (rows xs) t k with
  | false => rfl
  | true => rw [decide_eq_false (fun hn => hn (mom_some e)), Bool.false_or]
end
end Go.Proofs.YtdibijhaiaiifaaDoor
/- The reference's search of a tuple's moments. -/
namespace Go.Proofs.YtdibijhaiaiifaaDoor
open Go.RowKit
theorem cmp_flip (a b : Tp) : cmpT a b = 0 ↔ cmpT b a = 0 := by rw [cmpT_is.eq, cmpT_is.eq]; exact eq_comm
set_option maxHeartbeats 4000000 in
set_option maxRecDepth 1000000 in
theorem rWhen_any (va vt : Value) (xs : List RR) (t : Tp) (w : World) (ha : IsRel w va xs) (ht : IsVals w vt t) (sa : Sml 10000 xs) :
    Calls Tryd.prog 23 #[va, vt] w fun e w' => ∃ u, e = .returned u ∧ IsSpans w' u (canon fun k => mom (rows xs) t k) ∧ Below w.heap.size w w' := by
  have HS := Lib.hid sa.each
  have hl := sa.len
  clear sa
  obtain ⟨pa, pc, rfl, -⟩ := ha.shape
  obtain ⟨pt, ct, rfl, -⟩ := id ht
  go_enter Tryd.func23, Tryd.ntmps23
  go_wp2
  go_loopg [5, 6] xs.length (fun g v5 vi wr => ∃ (i : Nat) (W : List Sp), vi = .int .i64 i ∧ i ≤ xs.length ∧ xs.length - i ≤ g ∧ Hid (WhI xs t i W) ∧ Owns 2 86 encSp wr w.heap.size v5 W ∧ Below w.heap.size w wr)
  case atStart => exact ⟨0, [], rfl, Nat.zero_le _, Nat.le_refl _, Lib.hid (WhI.start _ _), Owns.nil _ _, Below.refl _ _⟩
  case round =>
    obtain ⟨i, W, rfl, hi, hg, V, H5, B⟩ := hrel
    obtain ⟨p5, c5, rfl⟩ := H5.form
    have hWl : W.length ≤ 1000000 := by have := V.out.len HS.out; omega
    by_cases hlt : i < xs.length
    · have hltz : (i : Int) < (xs.length : Int) := by omega
      obtain ⟨x, hx⟩ := getElem_of_lt hlt
      obtain ⟨b, off, e, c0, c1, rx⟩ := (ha.keep B).at_ hx
      cases e
      have VH := Lib.hid (V.out.hit hx)
      have VM := Lib.hid (V.out.miss hx)
      have hxl := (HS.out x (List.mem_of_getElem? hx)).2
      clear hx
      have htA := ht.keep B
      go_wp2_with fail
      refine (rCompareTuple_any _ _ t x.t _ htA rx.1).mono ?_
      rintro e w5 ⟨rfl, g5⟩
      obtain ⟨r, hr⟩ : ∃ r, cmpT t x.t = r := ⟨_, rfl⟩
      rw [cmp_flip, hr] at VH VM
      rw [hr]
      clear hr
      replace c1 := cell_keep g5.below c1
      have hs5 := (rx.keep g5.below).2.rows
      have H6 := H5.keep g5.below
      have B2 := B.trans (g5.below.mono B.size)
      clear c0 htA g5 rx
      by_cases hr0 : r = 0
      · have VN := Lib.hid (VH.out hr0)
        subst hr0
        go_wp2_with (at_builtin; refine wpList_cat fitsS encsS rfl _ _ rfl rfl rfl H6 (Below.refl _ _) hs5 B2.size hWl (by omega) ?_; intro p1 c1 w7 hO hB hG)
        go_roundg (xs.length - (i + 1))
        case measure => omega
        case rel => exact ⟨i + 1, _, by go_num, hlt, Nat.le_refl _, VN, by rw [List.length_append] at hO; exact hO, B2.trans hB⟩
      · have VN := Lib.hid (VM.out hr0)
        have hrb : (r == 0) = false := by rw [beq_eq_false_iff_ne]; exact hr0
        go_wp2
        go_roundg (xs.length - (i + 1))
        case measure => omega
        case rel => exact ⟨i + 1, W, by go_num, hlt, Nat.le_refl _, VN, H6, B2⟩
    · have hltz : ¬ (i : Int) < (xs.length : Int) := by omega
      have RES := Lib.hid (show canon (setOf W) = canon fun k => mom (rows xs) t k from canon_ext fun k _ => by rw [V.out.set k, List.take_of_length_le (by omega)])
      have h6 := IsSpans.of_rows (H5.is encsS (by omega))
      go_wp2_with fail
      refine (rOf_any _ W _ h6).mono ?_
      rintro e w5 ⟨u5, rfl, h5, B5⟩
      rw [RES.out] at h5
      go_wp2
      go_ret
      exact ⟨u5, rfl, h5, B.trans (B5.mono B.size)⟩
end Go.Proofs.YtdibijhaiaiifaaDoor
/- The reference's Put. -/
namespace Go.Proofs.YtdibijhaiaiifaaDoor
open Go.RowKit
theorem Hold.off1 {w w' : World} {r : RR} {v : Value} {out : List RR} {wr : World} {base : Nat} (H : Hold 2 44 encR RowOk noB wr base v out) (hr : RowOk w r) (hb : Below w.heap.size w w') (hw : base = w.heap.size) : ∀ u ∈ [r], Off RowOk w' (Ex v noB) u := fun u hu => by
  rw [List.mem_singleton.1 hu]
  refine Off.old (w := w) (fun a b => rowOk_keep a b _) hr hb fun k hk => ?_
  rcases hk with hk | hk
  · rw [← hw]; exact (H.1.lt k hk).1
  · exact hk.elim
theorem Hold.off2 {w' : World} {r : RR} {v : Value} {out : List RR} {wr : World} {base : Nat} (H : Hold 2 44 encR RowOk noB wr base v out) (hr : RowOk w' r) (ha : Fresh wr.heap.size r.av) (hw : Fresh wr.heap.size r.wv) : ∀ u ∈ [r], Off RowOk w' (Ex v noB) u := fun u hu => by
  rw [List.mem_singleton.1 hu]
  refine row_fresh (base := wr.heap.size) hr ha hw fun k hk => ?_
  rcases hk with hk | hk
  · exact (H.1.lt k hk).2
  · exact hk.elim
set_option maxHeartbeats 4000000 in
set_option maxRecDepth 1000000 in
theorem Put_any (va vt vs : Value) (xs : List RR) (t : Tp) (s : List Sp) (w : World) (ha : IsRel w va xs) (ht : IsVals w vt t) (hs : IsSpans w vs s) (hc : IsCan (rows xs)) (ho : s = [] ∨ OkW s) (sa : Sml 10000 xs) (htl : t.length ≤ 64) (hsl : s.length ≤ 64) :
    Calls Tryd.prog 80 #[va, vt, vs] w fun e w' => ∃ u, e = .returned u ∧ ∃ zs, IsRel w' u zs ∧ PutOf xs t s zs ∧ Below w.heap.size w w' := by
  have HC := Lib.hid hc
  have HO := Lib.hid ho
  clear hc ho
  have hl := sa.len
  clear sa
  obtain ⟨pa, pc, rfl, -⟩ := ha.shape
  obtain ⟨pt, ct, rfl, -⟩ := id ht
  obtain ⟨ps, cs, rfl, -⟩ := id hs
  have hlb : xs.length ≤ 9223372036854775807 := by omega
  go_enter Tryd.func80, Tryd.ntmps80
  go_wp2
  go_loopg [7, 8, 9] (xs.length + 1) (fun g v7 v8 vi wr => ∃ (i : Nat) (out : List RR) (d : Bool), vi = .int .i64 i ∧ v8 = .bool d ∧ i ≤ xs.length + 1 ∧ xs.length + 1 - i ≤ g ∧ Hid (PutI xs t s (min i xs.length) d out) ∧ Hid (i = xs.length + 1 → d = true) ∧ Hold 2 44 encR RowOk noB wr w.heap.size v7 out ∧ Below w.heap.size w wr)
  case atStart => exact ⟨0, [], false, rfl, rfl, Nat.zero_le _, Nat.le_refl _, Lib.hid (by rw [Nat.zero_min]; exact PutI.start _ _ _), Lib.hid (fun h => by omega), Hold.nil _ _, Below.refl _ _⟩
  case round =>
    obtain ⟨i, out, d, rfl, rfl, hi, hg, V, VD, H7, B⟩ := hrel
    obtain ⟨p7, c7, rfl⟩ := H7.form
    have hol : out.length ≤ 20000 := by have h1 := V.out.len; have : (if d = true then 1 else 0) ≤ 1 := by cases d <;> decide
                                        omega
    have haR := ha.keep B
    have htR := ht.keep B
    have hsR := hs.keep B
    by_cases hlt : i ≤ xs.length
    · have hltz : (i : Int) ≤ (xs.length : Int) := by omega
      by_cases hin : i < xs.length
      · have hinz : (i : Int) < (xs.length : Int) := by omega
        have hinq : ((i : Int) == (xs.length : Int)) = false := by rw [beq_eq_false_iff_ne]; omega
        rw [show min i xs.length = i by omega] at V
        have HM : Hid (min (i + 1) xs.length = i + 1) := Lib.hid (by omega)
        have HD : Hid (i + 1 = xs.length + 1 → False) := Lib.hid (by omega)
        obtain ⟨x, hx⟩ := getElem_of_lt hin
        obtain ⟨b, off, e, c0, c1, rx⟩ := haR.at_ hx
        cases e
        have rw0 : RowOk w x := ha.2 x (List.mem_of_getElem? hx)
        have HX := Lib.hid hx
        clear hx
        obtain ⟨r, hr⟩ : ∃ r, cmpT t x.t = r := ⟨_, rfl⟩
        have HR := Lib.hid hr
        clear hr
        cases d with
        | true =>
          go_wp2_with fail
          refine (rCompareTuple_any _ _ t x.t _ htR rx.1).mono ?_
          rintro e w1 ⟨rfl, g1⟩
          rw [HR.out]
          replace rx := rx.keep g1.below
          replace H7 := H7.keep g1.below
          replace c0 := cell_keep g1.below c0
          replace c1 := cell_keep g1.below c1
          replace B := B.trans (g1.below.mono B.size)
          clear g1
          by_cases hr0 : r = 0
          · subst hr0
            have V2 := Lib.hid (V.out.skip HX.out ((cmpT_is.eq _ _).1 HR.out).symm)
            clear V VD
            go_wp2
            go_roundg (xs.length + 1 - (i + 1))
            case measure => omega
            case rel => exact ⟨i + 1, out, true, by go_num, rfl, by omega, Nat.le_refl _, by rw [HM.out]; exact V2, Lib.hid (fun h => absurd h HD.out), H7, B⟩
          · have hrn : (r != 0) = true := by rw [bne_iff_ne]; exact hr0
            have V2 := Lib.hid (V.out.row HC.out HX.out (fun e => hr0 (by rw [← HR.out, e]; exact (cmpT_is.eq _ _).2 rfl)) (fun e => by cases e))
            clear V VD
            have bX := below_new w1 (.cells #[x.av, x.wv] 44)
            have hm : IsRows 2 encR (w1.alloc (.cells #[x.av, x.wv] 44)) (.slice (some ⟨w1.heap.size, 0, none⟩) 1 1) [x] := IsRows.lit w1 [x] encsR (by simp)
            have hmo := Hold.off1 H7 rw0 (B.trans (bX.mono B.size)) rfl
            go_wp2_with (at_builtin; refine wpList_hold fitsR24 encsR rfl _ _ rfl rfl rfl H7 bX hm hmo B.size (by omega) (by simp) ?_; intro p9 c9 w9 H9 B9 hG9; rw [List.length_append] at H9)
            go_roundg (xs.length + 1 - (i + 1))
            case measure => omega
            case rel => exact ⟨i + 1, _, true, by go_num, rfl, by omega, Nat.le_refl _, by rw [HM.out]; exact V2, Lib.hid (fun h => absurd h HD.out), H9, B.trans B9⟩
        | false =>
          go_wp2_with fail
          refine (rCompareTuple_any _ _ t x.t _ htR rx.1).mono ?_
          rintro e w1 ⟨rfl, g1⟩
          rw [HR.out]
          replace rx := rx.keep g1.below
          replace H7 := H7.keep g1.below
          replace haR := haR.keep g1.below
          replace htR := htR.keep g1.below
          replace hsR := hsR.keep g1.below
          replace c0 := cell_keep g1.below c0
          replace c1 := cell_keep g1.below c1
          replace B := B.trans (g1.below.mono B.size)
          clear g1
          by_cases hr1 : r ≤ 0
          · have hge := Lib.hid (drop_ge HC.out HX.out (by rw [HR.out]; exact hr1))
            by_cases hs0 : s.length = 0
            · have hsz : ¬ (0 : Int) < (s.length : Int) := by omega
              have V2 := Lib.hid (V.out.none (List.eq_nil_of_length_eq_zero hs0))
              clear V VD hs0
              go_wp2_with fail
              refine (rCompareTuple_any _ _ t x.t _ htR rx.1).mono ?_
              rintro e w2 ⟨rfl, g2⟩
              rw [HR.out]
              replace H7 := H7.keep g2.below
              replace c0 := cell_keep g2.below c0
              replace c1 := cell_keep g2.below c1
              replace B := B.trans (g2.below.mono B.size)
              clear g2
              by_cases hr0 : r = 0
              · subst hr0
                have V3 := Lib.hid (V2.out.skip HX.out ((cmpT_is.eq _ _).1 HR.out).symm)
                clear V2
                go_wp2
                go_roundg (xs.length + 1 - (i + 1))
                case measure => omega
                case rel => exact ⟨i + 1, _, true, by go_num, rfl, by omega, Nat.le_refl _, by rw [HM.out]; exact V3, Lib.hid (fun h => absurd h HD.out), H7, B⟩
              · have hrn : (r != 0) = true := by rw [bne_iff_ne]; exact hr0
                have V3 := Lib.hid (V2.out.row HC.out HX.out (fun e => hr0 (by rw [← HR.out, e]; exact (cmpT_is.eq _ _).2 rfl)) (fun e => by cases e))
                clear V2
                have bX := below_new w2 (.cells #[x.av, x.wv] 44)
                have hm : IsRows 2 encR (w2.alloc (.cells #[x.av, x.wv] 44)) (.slice (some ⟨w2.heap.size, 0, none⟩) 1 1) [x] := IsRows.lit w2 [x] encsR (by simp)
                have hmo := Hold.off1 H7 rw0 (B.trans (bX.mono B.size)) rfl
                go_wp2_with (at_builtin; refine wpList_hold fitsR24 encsR rfl _ _ rfl rfl rfl H7 bX hm hmo B.size (by omega) (by simp) ?_; intro p9 c9 w9 H9 B9 hG9; rw [List.length_append] at H9)
                go_roundg (xs.length + 1 - (i + 1))
                case measure => omega
                case rel => exact ⟨i + 1, _, true, by go_num, rfl, by omega, Nat.le_refl _, by rw [HM.out]; exact V3, Lib.hid (fun h => absurd h HD.out), H9, B.trans B9⟩
            · have hsz : (0 : Int) < (s.length : Int) := by omega
              have HS := Lib.hid (HO.out.resolve_left fun e => hs0 (by rw [e]; rfl))
              clear VD
              have hL1 : Owns 3 58 encVl (w1.alloc (.cells #[] 58)) w1.heap.size (.slice (some ⟨w1.heap.size, 0, none⟩) 0 0) [] := Owns.lit w1
              have bL1 := below_new w1 (.cells #[] 58)
              have htL : IsRows 3 encVl (w1.alloc (.cells #[] 58)) (.slice pt t.length ct) t := htR.keep bL1
              go_wp2_with (at_builtin; first
                | (refine wpList_cat fitsV encsV rfl _ _ rfl rfl rfl hL1 (Below.refl _ _) htL bL1.size (by simp) (by omega) ?_; intro pA cA wA hO1 hB1 hG1; simp only [List.nil_append] at hO1; have b1 := bL1.trans hB1; have hL2 : Owns 2 86 encSp (wA.alloc (.cells #[] 86)) wA.heap.size (.slice (some ⟨wA.heap.size, 0, none⟩) 0 0) [] := Owns.lit wA; have bL2 := below_new wA (.cells #[] 86); have hsL : IsRows 2 encSp (wA.alloc (.cells #[] 86)) (.slice ps s.length cs) s := ((hsR.keep b1).keep bL2).rows)
                | (refine wpList_cat fitsS encsS rfl _ _ rfl rfl rfl hL2 (Below.refl _ _) hsL bL2.size (by simp) (by omega) ?_; intro pB cB wB hO2 hB2 hG2; simp only [List.nil_append] at hO2; have b2 := bL2.trans hB2; have b12 := b1.trans (b2.mono b1.size); have bX := below_new wB (.cells #[.slice pA t.length cA, .slice pB s.length cB] 44); have hm : IsRows 2 encR (wB.alloc (.cells #[.slice pA t.length cA, .slice pB s.length cB] 44)) (.slice (some ⟨wB.heap.size, 0, none⟩) 1 1) [(⟨pA, cA, t, pB, cB, s⟩ : RR)] := IsRows.lit wB [_] encsR (by simp); have hro : RowOk wB ⟨pA, cA, t, pB, cB, s⟩ := ⟨(hO1.keep b2).is encsV (by omega), IsSpans.of_rows (hO2.is encsS (by omega))⟩; have hmo := Hold.off2 (w' := wB.alloc (.cells #[.slice pA t.length cA, .slice pB s.length cB] 44)) H7 (r := ⟨pA, cA, t, pB, cB, s⟩) (hro.keep bX) hO1.fresh (Fresh.mono hO2.fresh b1.size); have b13 := b12.trans (bX.mono b12.size))
                | (refine wpList_hold fitsR24 encsR rfl _ _ rfl rfl rfl H7 b13 hm hmo B.size (by omega) (by simp) ?_; intro pC cC wC H8 B8 hG8; rw [List.length_append] at H8; have BC := B.trans B8; obtain ⟨b2, o2, e, c0, c1, rx⟩ := (ha.keep BC).at_ HX.out; cases e; replace htR := ht.keep BC))
              have V2 := Lib.hid (V.out.new (r := ⟨pA, cA, t, pB, cB, s⟩) HS.out hge.out rfl rfl)
              obtain ⟨o2, ho2⟩ : ∃ o2, out ++ [(⟨pA, cA, t, pB, cB, s⟩ : RR)] = o2 := ⟨_, rfl⟩
              have ho3 : o2.length ≤ 20001 := by rw [← ho2, List.length_append]; simp; omega
              rw [ho2] at H8 V2
              clear ho2
              go_wp2_with fail
              refine (rCompareTuple_any _ _ t x.t _ htR rx.1).mono ?_
              rintro e w2 ⟨rfl, g2⟩
              rw [HR.out]
              replace H8 := H8.keep g2.below
              replace c0 := cell_keep g2.below c0
              replace c1 := cell_keep g2.below c1
              replace BC := BC.trans (g2.below.mono BC.size)
              clear g2
              by_cases hr0 : r = 0
              · subst hr0
                have V3 := Lib.hid (V2.out.skip HX.out ((cmpT_is.eq _ _).1 HR.out).symm)
                clear V2
                go_wp2
                go_roundg (xs.length + 1 - (i + 1))
                case measure => omega
                case rel => exact ⟨i + 1, _, true, by go_num, rfl, by omega, Nat.le_refl _, by rw [HM.out]; exact V3, Lib.hid (fun h => absurd h HD.out), H8, BC⟩
              · have hrn : (r != 0) = true := by rw [bne_iff_ne]; exact hr0
                have V3 := Lib.hid (V2.out.row HC.out HX.out (fun e => hr0 (by rw [← HR.out, e]; exact (cmpT_is.eq _ _).2 rfl)) (fun e => by cases e))
                clear V2
                have bX := below_new w2 (.cells #[x.av, x.wv] 44)
                have hm : IsRows 2 encR (w2.alloc (.cells #[x.av, x.wv] 44)) (.slice (some ⟨w2.heap.size, 0, none⟩) 1 1) [x] := IsRows.lit w2 [x] encsR (by simp)
                have hmo := Hold.off1 H8 rw0 (BC.trans (bX.mono BC.size)) rfl
                go_wp2_with (at_builtin; refine wpList_hold fitsR24 encsR rfl _ _ rfl rfl rfl H8 bX hm hmo BC.size (by omega) (by simp) ?_; intro p9 c9 w9 H9 B9 hG9; rw [List.length_append] at H9)
                go_roundg (xs.length + 1 - (i + 1))
                case measure => omega
                case rel => exact ⟨i + 1, _, true, by go_num, rfl, by omega, Nat.le_refl _, by rw [HM.out]; exact V3, Lib.hid (fun h => absurd h HD.out), H9, BC.trans B9⟩
          · have hr2 : cmpT x.t t < 0 := by
              have h1 := cmpT_is.anti t x.t
              have h2 := HR.out
              omega
            have HLT := Lib.hid hr2
            have V2 := Lib.hid (V.out.row HC.out HX.out (fun e => by rw [e, cmpT_is.refl] at hr2; omega) fun _ => HLT.out)
            have hrn : (r != 0) = true := by rw [bne_iff_ne]; omega
            clear hr2 V VD
            go_wp2_with fail
            refine (rCompareTuple_any _ _ t x.t _ htR rx.1).mono ?_
            rintro e w2 ⟨rfl, g2⟩
            rw [HR.out]
            replace H7 := H7.keep g2.below
            replace c0 := cell_keep g2.below c0
            replace c1 := cell_keep g2.below c1
            replace B := B.trans (g2.below.mono B.size)
            clear g2
            have bX := below_new w2 (.cells #[x.av, x.wv] 44)
            have hm : IsRows 2 encR (w2.alloc (.cells #[x.av, x.wv] 44)) (.slice (some ⟨w2.heap.size, 0, none⟩) 1 1) [x] := IsRows.lit w2 [x] encsR (by simp)
            have hmo := Hold.off1 H7 rw0 (B.trans (bX.mono B.size)) rfl
            go_wp2_with (at_builtin; refine wpList_hold fitsR24 encsR rfl _ _ rfl rfl rfl H7 bX hm hmo B.size (by omega) (by simp) ?_; intro p9 c9 w9 H9 B9 hG9; rw [List.length_append] at H9)
            go_roundg (xs.length + 1 - (i + 1))
            case measure => omega
            case rel => exact ⟨i + 1, _, false, by go_num, rfl, by omega, Nat.le_refl _, by rw [HM.out]; exact V2, Lib.hid (fun h => absurd h HD.out), H9, B.trans B9⟩
      · have hin' : ¬ (i : Int) < (xs.length : Int) := by omega
        have hieq : i = xs.length := by omega
        rw [show min i xs.length = xs.length by omega] at V
        have HM : Hid (min (i + 1) xs.length = xs.length) := Lib.hid (by omega)
        have HI := Lib.hid hieq
        have hinq : ((i : Int) == (xs.length : Int)) = true := by rw [beq_iff_eq]; omega
        clear hieq
        cases d with
        | true =>
          go_wp2
          go_roundg (xs.length + 1 - (i + 1))
          case measure => omega
          case rel => exact ⟨i + 1, out, true, by go_num, rfl, by omega, Nat.le_refl _, by rw [HM.out]; exact V, Lib.hid (fun _ => rfl), H7, B⟩
        | false =>
          have hge : Hid (∀ z ∈ xs.drop xs.length, cmpT t z.t < 0 ∨ z.t = t) := Lib.hid (by rw [List.drop_length]; intro z hz; cases hz)
          by_cases hs0 : s.length = 0
          · have V2 := Lib.hid (V.out.none (List.eq_nil_of_length_eq_zero hs0))
            have hsz : ¬ (0 : Int) < (s.length : Int) := by omega
            clear V VD hs0
            go_wp2
            go_roundg (xs.length + 1 - (i + 1))
            case measure => omega
            case rel => exact ⟨i + 1, out, true, by go_num, rfl, by omega, Nat.le_refl _, by rw [HM.out]; exact V2, Lib.hid (fun _ => rfl), H7, B⟩
          · have hsz : (0 : Int) < (s.length : Int) := by omega
            have HS := Lib.hid (HO.out.resolve_left fun e => hs0 (by rw [e]; rfl))
            clear VD
            have hL1 : Owns 3 58 encVl (wr.alloc (.cells #[] 58)) wr.heap.size (.slice (some ⟨wr.heap.size, 0, none⟩) 0 0) [] := Owns.lit wr
            have bL1 := below_new wr (.cells #[] 58)
            have htL : IsRows 3 encVl (wr.alloc (.cells #[] 58)) (.slice pt t.length ct) t := htR.keep bL1
            go_wp2_with (at_builtin; first
              | (refine wpList_cat fitsV encsV rfl _ _ rfl rfl rfl hL1 (Below.refl _ _) htL bL1.size (by simp) (by omega) ?_; intro pA cA wA hO1 hB1 hG1; simp only [List.nil_append] at hO1; have b1 := bL1.trans hB1; have hL2 : Owns 2 86 encSp (wA.alloc (.cells #[] 86)) wA.heap.size (.slice (some ⟨wA.heap.size, 0, none⟩) 0 0) [] := Owns.lit wA; have bL2 := below_new wA (.cells #[] 86); have hsL : IsRows 2 encSp (wA.alloc (.cells #[] 86)) (.slice ps s.length cs) s := ((hsR.keep b1).keep bL2).rows)
              | (refine wpList_cat fitsS encsS rfl _ _ rfl rfl rfl hL2 (Below.refl _ _) hsL bL2.size (by simp) (by omega) ?_; intro pB cB wB hO2 hB2 hG2; simp only [List.nil_append] at hO2; have b2 := bL2.trans hB2; have b12 := b1.trans (b2.mono b1.size); have bX := below_new wB (.cells #[.slice pA t.length cA, .slice pB s.length cB] 44); have hm : IsRows 2 encR (wB.alloc (.cells #[.slice pA t.length cA, .slice pB s.length cB] 44)) (.slice (some ⟨wB.heap.size, 0, none⟩) 1 1) [(⟨pA, cA, t, pB, cB, s⟩ : RR)] := IsRows.lit wB [_] encsR (by simp); have hro : RowOk wB ⟨pA, cA, t, pB, cB, s⟩ := ⟨(hO1.keep b2).is encsV (by omega), IsSpans.of_rows (hO2.is encsS (by omega))⟩; have hmo := Hold.off2 (w' := wB.alloc (.cells #[.slice pA t.length cA, .slice pB s.length cB] 44)) H7 (r := ⟨pA, cA, t, pB, cB, s⟩) (hro.keep bX) hO1.fresh (Fresh.mono hO2.fresh b1.size); have b13 := b12.trans (bX.mono b12.size))
              | (refine wpList_hold fitsR24 encsR rfl _ _ rfl rfl rfl H7 b13 hm hmo B.size (by omega) (by simp) ?_; intro pC cC wC H8 B8 hG8; rw [List.length_append] at H8; have BC := B.trans B8))
            have V2 := Lib.hid (V.out.new (r := ⟨pA, cA, t, pB, cB, s⟩) HS.out hge.out rfl rfl)
            go_roundg (xs.length + 1 - (i + 1))
            case measure => omega
            case rel => exact ⟨i + 1, _, true, by go_num, rfl, by omega, Nat.le_refl _, by rw [HM.out]; exact V2, Lib.hid (fun _ => rfl), H8, BC⟩
    · have hltz : ¬ (i : Int) ≤ (xs.length : Int) := by omega
      have hd : d = true := VD.out (by omega)
      subst hd
      rw [show min i xs.length = xs.length by omega] at V
      have RT := H7.rel (by omega)
      go_wp2
      go_ret
      exact ⟨_, rfl, out, RT, V.out.whole rfl, B⟩
end Go.Proofs.YtdibijhaiaiifaaDoor
/- The reference's Of, Insert and Remove. -/
namespace Go.Proofs.YtdibijhaiaiifaaDoor
open Go.RowKit
theorem ok_or (S : Nat → Bool) : canon S = [] ∨ OkW (canon S) := by
  by_cases h : canon S = []
  · exact .inl h
  · exact .inr (okW_canon h)
theorem rWhen_ts {va vt : Value} {xs : List RR} {t : Tp} {w0 w : World} {Q : Ending → World → Prop} (ha : IsRel w0 va xs) (ht : IsVals w0 vt t) (sa : Sml 10000 xs) (hb : Below w0.heap.size w0 w)
    (k : ∀ u w', IsSpans w' u (canon fun k => mom (rows xs) t k) → Below w0.heap.size w0 w' → Q (.returned u) w') : Calls Tryd.prog 23 #[va, vt] w Q :=
  (rWhen_any va vt xs t w (ha.keep hb) (ht.keep hb) sa).mono fun e w' ⟨u, he, hu, hB⟩ => by subst he; exact k u w' hu (below_trans hb hB)
theorem Put_ts {va vt vs : Value} {xs : List RR} {t : Tp} {s : List Sp} {w0 w1 w : World} {Q : Ending → World → Prop} (ha : IsRel w0 va xs) (ht : IsVals w0 vt t) (hs : IsSpans w1 vs s) (hc : Hid (IsCan (rows xs))) (ho : Hid (s = [] ∨ OkW s)) (sa : Sml 10000 xs) (htl : t.length ≤ 64) (hsl : s.length ≤ 64) (hb : Below w0.heap.size w0 w) (hb1 : Below w1.heap.size w1 w)
    (k : ∀ u w' zs, IsRel w' u zs → Hid (PutOf xs t s zs) → Below w0.heap.size w0 w' → Q (.returned u) w') : Calls Tryd.prog 80 #[va, vt, vs] w Q :=
  (Put_any va vt vs xs t s w (ha.keep hb) (ht.keep hb) (hs.keep hb1) hc.out ho.out sa htl hsl).mono fun e w' ⟨u, he, zs, hu, hp, hB⟩ => by subst he; exact k u w' zs hu (Lib.hid hp) (below_trans hb hB)
set_option maxHeartbeats 4000000 in
set_option maxRecDepth 1000000 in
theorem rOfR_any (va : Value) (xs : List RR) (w : World) (ha : IsRel w va xs) (sa : Sml 10000 xs) :
    Calls Tryd.prog 76 #[va] w fun e w' => ∃ u, e = .returned u ∧ ∃ zs, IsRel w' u zs ∧ CanOf xs zs ∧ Below w.heap.size w w' := by
  have HS := Lib.hid sa.each
  have hl := sa.len
  obtain ⟨pa, pc, rfl, -⟩ := ha.shape
  go_enter Tryd.func76, Tryd.ntmps76
  go_wp2
  go_loopg [3, 4] xs.length (fun g v3 vi wr => ∃ (i : Nat) (out : List RR), vi = .int .i64 i ∧ i ≤ xs.length ∧ xs.length - i ≤ g ∧ Hid (OfI xs i out) ∧ IsRel wr v3 out ∧ Below w.heap.size w wr)
  case atStart => exact ⟨0, [], rfl, Nat.zero_le _, Nat.le_refl _, Lib.hid (OfI.start _), IsRel.nil _, Below.refl _ _⟩
  case round =>
    obtain ⟨i, out, rfl, hi, hg, V, H3, B⟩ := hrel
    obtain ⟨p3, c3, rfl, -⟩ := H3.shape
    have haR := ha.keep B
    by_cases hlt : i < xs.length
    · have hltz : (i : Int) < (xs.length : Int) := by omega
      obtain ⟨x, hx⟩ := getElem_of_lt hlt
      obtain ⟨b, off, e, c0, c1, rx⟩ := haR.at_ hx
      cases e
      have HX := Lib.hid hx
      have hxt := (HS.out x (List.mem_of_getElem? hx)).1
      have so : Sml 10000 out := (V.out.sml fun y hy => (HS.out y hy).1).mono (by omega)
      have HCO := Lib.hid V.out.can
      clear hx c1
      have rx := rx.1
      have hsl : (canon fun k => mom (rows xs) x.t k).length ≤ 64 := Nat.le_trans (canon_le _) (by omega)
      have hok : Hid ((canon fun k => mom (rows xs) x.t k) = [] ∨ OkW (canon fun k => mom (rows xs) x.t k)) := Lib.hid (ok_or _)
      obtain ⟨s, hS⟩ : ∃ s, (canon fun k => mom (rows xs) x.t k) = s := ⟨_, rfl⟩
      rw [hS] at hsl hok
      have HSS := Lib.hid hS
      clear hS
      go_wp2
      go_region_law
        (first
          | (go_simp; go_at_call 23; refine rWhen_ts haR rx sa (by with_reducible (repeat (first | assumption | exact Below.refl _ _ | refine below_alloc' ?_ | refine below_drew' ?_ | refine below_step (by assumption) ?_))) ?_; intro u1 w1 hS1 hB1; rw [HSS.out] at hS1; have cF := cell_keep hB1 c0)
          | (go_simp; go_at_call 80; refine Put_ts H3 rx hS1 HCO hok so hxt hsl (by with_reducible (repeat (first | assumption | exact Below.refl _ _ | refine below_alloc' ?_ | refine below_drew' ?_ | refine below_step (by assumption) ?_))) (by with_reducible (repeat (first | assumption | exact Below.refl _ _ | refine below_alloc' ?_ | refine below_drew' ?_ | refine below_step (by assumption) ?_))) ?_; intro u2 w2 zs hR2 hP2 hB2))
      all_goals
        go_wp2
        go_roundg (xs.length - (i + 1))
        case measure => omega
        case rel => exact ⟨i + 1, zs, by go_num, hlt, Nat.le_refl _, Lib.hid (V.out.step HX.out (by rw [HSS.out]; exact hP2.out)), hR2, below_trans B hB2⟩
    · have hltz : ¬ (i : Int) < (xs.length : Int) := by omega
      have RES := Lib.hid (V.out.whole (by omega))
      go_wp2
      go_ret
      exact ⟨_, rfl, out, H3, RES.out, B⟩
end Go.Proofs.YtdibijhaiaiifaaDoor
