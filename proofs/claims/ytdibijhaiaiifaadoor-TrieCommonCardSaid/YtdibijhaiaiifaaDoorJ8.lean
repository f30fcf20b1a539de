/- Parts Sg, Hold, Can: words, walks and laws that the claims of this seat share. -/
import Derived.Test.YtdibijhaiaiifaaDoorJ7
/- The walks of the library's stable sort. -/
namespace Go.Proofs.YtdibijhaiaiifaaDoor
open Go.RowKit
open Go.Sort
/-- From a on the blocks of s rows are sorted. -/
inductive Bl (s n : Nat) (d : Array RR) : Nat → Prop
  | done {a : Nat} (h : n ≤ a) : Bl s n d a
  | step {a : Nat} (h : SortedIn ltR a (min (a + s) n) d) (k : Bl s n d (a + s)) : Bl s n d a
/-- The blocks of s rows before a are sorted. -/
inductive Dn (s : Nat) (d : Array RR) : Nat → Prop
  | zero : Dn s d 0
  | step {a : Nat} (h : Dn s d a) (k : SortedIn ltR a (a + s) d) : Dn s d (a + s)
section
variable {s n : Nat} {d d' : Array RR}
theorem Bl.same {a : Nat} (h : Bl s n d a) : (∀ x, a ≤ x → d'[x]! = d[x]!) → Bl s n d' a := by
  induction h with
  | done h => intro _; exact .done h
  | step h k ih => intro e; exact .step (SortedIn.same h fun x k1 k2 => e x k1) (ih fun x hx => e x (by omega))
theorem Dn.same {a : Nat} (h : Dn s d a) : (∀ x, x < a → d'[x]! = d[x]!) → Dn s d' a := by
  induction h with
  | zero => intro _; exact .zero
  | step h k ih => intro e; exact .step (ih fun x hx => e x (by omega)) (SortedIn.same k fun x k1 k2 => e x k2)
theorem Bl.first {a : Nat} (h : Bl s n d a) : SortedIn ltR a (min (a + s) n) d := by
  cases h with
  | done h => exact SortedIn.short (by omega)
  | step h k => exact h
theorem Bl.next {a : Nat} (h : Bl s n d a) : Bl s n d (a + s) := by
  cases h with
  | done h => exact .done (by omega)
  | step h k => exact k
theorem Dn.all {a : Nat} (h : Dn s d a) : a ≤ n → Bl s n d a → Bl s n d 0 := by
  induction h with
  | zero => intro _ h; exact h
  | @step a h k ih => intro ha hb; exact ih (by omega) (.step (by rw [Nat.min_eq_left ha]; exact k) hb)
theorem Bl.of_last {a : Nat} (h : SortedIn ltR a n d) (hs : n ≤ a + s) : Bl s n d a := .step (by rw [Nat.min_eq_right hs]; exact h) (.done hs)
theorem insertion_perm {a b : Nat} (hab : a ≤ b) (hb : b ≤ d.size) : PermIn a b d (insertionSort ltR d a b) ∧ SortedIn ltR a b (insertionSort ltR d a b) := insertionSort_holds swoR d a b hab hb
theorem permIn_up {sz a b : Nat} (hs : d.size = sz) (hb : b ≤ sz) (h : PermIn a b d d') : PermIn 0 sz d d' := permIn_mono _ _ _ _ _ _ (Nat.zero_le _) hb (by omega) h
end
set_option maxHeartbeats 4000000 in
set_option maxRecDepth 1000000 in
theorem stable_any (wb : World) (G c sz : Nat) (hsz : sz ≤ 1000000) (d0 : Array RR) (w : World) (S : St wb G d0 w) (hd : d0.size = sz) :
    Calls Tryd.prog 144 #[.slice (some ⟨G, 0, none⟩) sz c, .int .i64 sz, .func (.func 73) #[] #[]] w fun e w' => e = .returned (.tuple #[]) ∧ ∃ d', St wb G d' w' ∧ PermIn 0 sz d0 d' ∧ SortedIn ltR 0 sz d' := by
  go_enter Tryd.func144, Tryd.ntmps144
  go_wp2
  go_loopg [7, 8] sz (fun g va vb wr => ∃ (a : Nat) (d : Array RR), va = .int .i64 a ∧ vb = .int .i64 (a + 20 : Nat) ∧ a ≤ sz ∧ sz - a ≤ g ∧ d.size = sz ∧ St wb G d wr ∧ Hid (PermIn 0 sz d0 d) ∧ Hid (Dn 20 d a))
  case atStart => exact ⟨0, d0, rfl, rfl, Nat.zero_le _, Nat.le_refl _, hd, S, Lib.hid (permIn_refl _ _ _), Lib.hid .zero⟩
  case round =>
    clear S
    obtain ⟨a, d, rfl, rfl, has, hg, hds, S, P, D⟩ := hrel
    by_cases hlt : a + 20 ≤ sz
    · have hltz : (a : Int) + 20 ≤ (sz : Int) := by omega
      have hI := insertion_perm (d := d) (a := a) (b := a + 20) (by omega) (by omega)
      have PN := Lib.hid (permIn_trans _ _ _ _ _ P.out (permIn_up hds hlt hI.1))
      have DN := Lib.hid (Dn.step (D.out.same (d' := insertionSort ltR d a (a + 20)) fun x hx => hI.1.2.1 x (.inl hx)) hI.2)
      have hz := hI.1.1
      clear hI
      go_wp2_with fail
      have hC := insertion_any wb G c a (a + 20) d _ S (by omega) (by omega) (by omega)
      rw [hds] at hC
      refine hC.mono ?_
      rintro e w1 ⟨rfl, S1⟩
      generalize insertionSort ltR d a (a + 20) = d1 at *
      clear hC S
      go_wp2
      go_roundg (sz - (a + 20))
      case measure => omega
      case rel => exact ⟨a + 20, d1, by go_num, by go_num, hlt, Nat.le_refl _, by omega, S1, PN, DN⟩
    · have hltz : ¬ (a : Int) + 20 ≤ (sz : Int) := by omega
      have hI := insertion_perm (d := d) (a := a) (b := sz) (by omega) (by omega)
      have PN := Lib.hid (permIn_trans _ _ _ _ _ P.out (permIn_up hds (Nat.le_refl _) hI.1))
      have BN := Lib.hid ((D.out.same (d' := insertionSort ltR d a sz) fun x hx => hI.1.2.1 x (.inl hx)).all has (Bl.of_last hI.2 (by omega)))
      have hz := hI.1.1
      clear hI
      go_wp2_with fail
      have hC := insertion_any wb G c a sz d _ S (by omega) (by omega) (by omega)
      rw [hds] at hC
      refine hC.mono ?_
      rintro e w1 ⟨rfl, S1⟩
      generalize insertionSort ltR d a sz = d1 at *
      have hd1 : d1.size = sz := by omega
      clear hC S hz P D
      go_wp2
      go_loopg [6] (sz + 1) (fun g vs wr => ∃ (s : Nat) (d : Array RR), vs = .int .i64 s ∧ 1 ≤ s ∧ s ≤ 2 * sz + 20 ∧ sz + 1 - s ≤ g ∧ d.size = sz ∧ St wb G d wr ∧ Hid (PermIn 0 sz d0 d) ∧ Hid (Bl s sz d 0))
      case atStart => exact ⟨20, d1, rfl, by omega, by omega, by omega, hd1, S1, PN, BN⟩
      case round =>
        clear S1 PN BN hd1
        obtain ⟨s, d, rfl, hs1, hs2, hg2, hds, S, P, B⟩ := hrel
        by_cases hlt2 : s < sz
        · have hltz2 : (s : Int) < (sz : Int) := by omega
          go_wp2
          go_loopg [7, 8] sz (fun g va vb wr => ∃ (a : Nat) (d : Array RR), va = .int .i64 a ∧ vb = .int .i64 (a + 2 * s : Nat) ∧ a ≤ sz ∧ sz - a ≤ g ∧ d.size = sz ∧ St wb G d wr ∧ Hid (PermIn 0 sz d0 d) ∧ Hid (Dn (2 * s) d a) ∧ Hid (Bl s sz d a))
          case atStart => exact ⟨0, d, rfl, by go_num, Nat.zero_le _, Nat.le_refl _, hds, S, P, Lib.hid .zero, B⟩
          case round =>
            clear S P B hds
            obtain ⟨a, d, rfl, rfl, has, hg, hds, S, P, D, B⟩ := hrel
            by_cases hlt3 : a + 2 * s ≤ sz
            · have hltz3 : (a : Int) + 2 * (s : Int) ≤ (sz : Int) := by omega
              have H1 : Hid (SortedIn ltR a (a + s) d) := Lib.hid (by have := B.out.first; rwa [Nat.min_eq_left (by omega)] at this)
              have H2 : Hid (SortedIn ltR (a + s) (a + 2 * s) d) := Lib.hid (by have := B.out.next.first; rwa [Nat.min_eq_left (by omega), show a + s + s = a + 2 * s by omega] at this)
              have BN := Lib.hid B.out.next.next
              rw [show a + s + s = a + 2 * s by omega] at BN
              go_wp2_with fail
              have hC := symMerge_any wb G c sz hsz (2 * s) a (a + s) (a + 2 * s) d _ (by omega) S hds (by omega) (by omega) (by omega) H1 H2
              refine hC.mono ?_
              rintro e w2 ⟨rfl, d2, S2, P2, T2⟩
              have PN := Lib.hid (permIn_trans _ _ _ _ _ P.out (permIn_up hds hlt3 P2))
              have DN := Lib.hid (Dn.step (D.out.same (d' := d2) fun x hx => P2.2.1 x (.inl hx)) T2)
              replace BN := Lib.hid (BN.out.same (d' := d2) fun x hx => P2.2.1 x (.inr hx))
              have hd2 : d2.size = sz := P2.1.trans hds
              clear hC P D B S P2 T2 H1 H2
              go_wp2
              go_roundg (sz - (a + 2 * s))
              case measure => omega
              case rel => exact ⟨a + 2 * s, d2, by go_num, by go_num, hlt3, Nat.le_refl _, hd2, S2, PN, DN, BN⟩
            · have hltz3 : ¬ (a : Int) + 2 * (s : Int) ≤ (sz : Int) := by omega
              by_cases hlt4 : a + s < sz
              · have hltz4 : (a : Int) + (s : Int) < (sz : Int) := by omega
                have H1 : Hid (SortedIn ltR a (a + s) d) := Lib.hid (by have := B.out.first; rwa [Nat.min_eq_left (by omega)] at this)
                have H2 : Hid (SortedIn ltR (a + s) sz d) := Lib.hid (by have := B.out.next.first; rwa [Nat.min_eq_right (by omega)] at this)
                go_wp2_with fail
                have hC := symMerge_any wb G c sz hsz sz a (a + s) sz d _ (by omega) S hds (by omega) (by omega) (by omega) H1 H2
                refine hC.mono ?_
                rintro e w2 ⟨rfl, d2, S2, P2, T2⟩
                have PN := Lib.hid (permIn_trans _ _ _ _ _ P.out (permIn_up hds (Nat.le_refl _) P2))
                have BN := Lib.hid ((D.out.same (d' := d2) fun x hx => P2.2.1 x (.inl hx)).all has (Bl.of_last T2 (by omega)))
                have hd2 : d2.size = sz := P2.1.trans hds
                clear hC P D B S P2 T2 H1 H2
                go_wp2
                go_roundg (sz + 1 - 2 * s)
                case measure => omega
                case rel => exact ⟨2 * s, d2, by go_num, by omega, by omega, Nat.le_refl _, hd2, S2, PN, BN⟩
              · have hltz4 : ¬ (a : Int) + (s : Int) < (sz : Int) := by omega
                have BN := Lib.hid (D.out.all has (Bl.of_last (by have := B.out.first; rwa [Nat.min_eq_right (by omega)] at this) (by omega)))
                clear D B
                go_wp2
                go_roundg (sz + 1 - 2 * s)
                case measure => omega
                case rel => exact ⟨2 * s, d, by go_num, by omega, by omega, Nat.le_refl _, hds, S, P, BN⟩
        · have hltz2 : ¬ (s : Int) < (sz : Int) := by omega
          have T := Lib.hid (show SortedIn ltR 0 sz d by have := B.out.first; rwa [Nat.min_eq_right (by omega)] at this)
          go_wp2
          go_end0
          exact ⟨rfl, d, S, P.out, T.out⟩
end Go.Proofs.YtdibijhaiaiifaaDoor
/- Slices that a call owns whose rows lead to further memory; the library's SortStableFunc. -/
namespace Go.Proofs.YtdibijhaiaiifaaDoor
open Go.RowKit
open Go.Sort
/-- The worlds agree but at the blocks X; the second may have more of them. -/
structure Agree (X : Nat → Prop) (A B : World) : Prop where
  os : B.os = A.os
  tape : B.tape = A.tape
  output : B.output = A.output
  size : A.heap.size ≤ B.heap.size
  block : ∀ k, k < A.heap.size → ¬ X k → B.heap[k]? = A.heap[k]?
theorem Agree.refl (X : Nat → Prop) (A : World) : Agree X A A := ⟨rfl, rfl, rfl, Nat.le_refl _, fun _ _ _ => rfl⟩
theorem Agree.trans {X : Nat → Prop} {A B C : World} (h : Agree X A B) (k : Agree X B C) : Agree X A C :=
  ⟨k.os.trans h.os, k.tape.trans h.tape, k.output.trans h.output, Nat.le_trans h.size k.size, fun i hi hx => (k.block i (Nat.lt_of_lt_of_le hi h.size) hx).trans (h.block i hi hx)⟩
theorem Agree.mono {X Y : Nat → Prop} {A B : World} (h : Agree X A B) (hxy : ∀ k, X k → Y k) : Agree Y A B := ⟨h.os, h.tape, h.output, h.size, fun k hk hy => h.block k hk fun hx => hy (hxy k hx)⟩
theorem Agree.of_below {X : Nat → Prop} {A B : World} (h : Below A.heap.size A B) : Agree X A B := ⟨h.os, h.tape, h.output, h.size, fun k hk _ => h.block k hk⟩
theorem Agree.of_grown {X : Nat → Prop} {A B : World} {r : Option Nat} (h : A.grownBy B r) (hr : ∀ k, r = some k → X k) : Agree X A B := ⟨h.os, h.tape, h.output, h.size, fun k hk hx => h.block k hk fun e => hx (hr k e.symm)⟩
/-- Where all that differs lies at or behind n. -/
theorem Agree.below {X : Nat → Prop} {A B : World} (h : Agree X A B) {n : Nat} (hn : n ≤ A.heap.size) (hx : ∀ k, X k → n ≤ k) : Below n A B := ⟨h.os, h.tape, h.output, h.size, fun k hk => h.block k (by omega) fun e => by have := hx k e; omega⟩
theorem Agree.cell {X : Nat → Prop} {A B : World} (h : Agree X A B) {p : Addr} {v : Value} (hc : A.cell? p = some v) (hx : ¬ X p.block) : B.cell? p = some v := (World.cell?_of_block (h.block p.block (cell_lt hc) hx)).trans hc
def noB : Nat → Prop := fun _ => False
/-- The block of v, or one of ex. -/
def Ex (v : Value) (ex : Nat → Prop) : Nat → Prop := fun k => v.ownBlock = some k ∨ ex k
section
variable {α : Type} {ok : World → α → Prop}
/-- Whatever becomes of the blocks X, x is as it should be. -/
def Off (ok : World → α → Prop) (w : World) (X : Nat → Prop) (x : α) : Prop := ∀ w', Agree X w w' → ok w' x
theorem Off.here {w : World} {X : Nat → Prop} {x : α} (h : Off ok w X x) : ok w x := h w (Agree.refl _ _)
theorem Off.agree {w w' : World} {X : Nat → Prop} {x : α} (h : Off ok w X x) (hg : Agree X w w') : Off ok w' X x := fun w2 h2 => h w2 (hg.trans h2)
theorem Off.keep {w w' : World} {X : Nat → Prop} {x : α} (h : Off ok w X x) (hb : Below w.heap.size w w') : Off ok w' X x := h.agree (.of_below hb)
/-- What is elder than X. -/
theorem Off.old {w w' : World} {X : Nat → Prop} {x : α} (hk : ∀ w w' : World, Below w.heap.size w w' → ok w x → ok w' x) (h : ok w x) (hb : Below w.heap.size w w') (hx : ∀ k, X k → w.heap.size ≤ k) : Off ok w' X x := fun w2 h2 =>
  hk w w2 (hb.trans (h2.below hb.size hx)) h
/-- A slice that the call owns, and its rows apart from it and from the blocks ex. -/
def Hold (k : Nat) (e : TypeId) (enc : α → List Value) (ok : World → α → Prop) (ex : Nat → Prop) (w : World) (base : Nat) (v : Value) (l : List α) : Prop := Owns k e enc w base v l ∧ ∀ x ∈ l, Off ok w (Ex v ex) x
variable {k bytes : Nat} {t e : TypeId} {z : Value} {enc : α → List Value} {wr w w' : World} {base : Nat} {v x : Value} {l m : List α} {ex : Nat → Prop}
theorem Owns.agree {X : Nat → Prop} (h : Owns k e enc w base v l) (hg : Agree X w w') (hx : ∀ k, X k → k < base) : Owns k e enc w' base v l := by
  refine ⟨h.1, ?_⟩
  rcases h.2 with h | ⟨g, cap, cur, e1, hb, hh, r⟩
  · exact .inl h
  · exact .inr ⟨g, cap, cur, e1, hb, (hg.block g (block_lt hh) fun q => by have := hx g q; omega).trans hh, r⟩
theorem Hold.keep (h : Hold k e enc ok ex w base v l) (hb : Below w.heap.size w w') : Hold k e enc ok ex w' base v l := ⟨h.1.keep hb, fun x hx => (h.2 x hx).keep hb⟩
theorem Hold.agree (h : Hold k e enc ok ex w base v l) (hg : Agree ex w w') (hx : ∀ k, ex k → k < base) : Hold k e enc ok ex w' base v l := ⟨h.1.agree hg hx, fun x hx => (h.2 x hx).agree (hg.mono fun _ h => .inr h)⟩
theorem Hold.nil (w : World) (base : Nat) : Hold k e enc ok ex w base (.slice none 0 0) [] := ⟨Owns.nil _ _, by simp⟩
theorem Hold.form (h : Hold k e enc ok ex w base v l) : ∃ a c, v = .slice a l.length c := h.1.form
theorem Hold.less {ey : Nat → Prop} (h : Hold k e enc ok ex w base v l) (hx : ∀ k, ey k → ex k) : Hold k e enc ok ey w base v l := ⟨h.1, fun x hl w' hw => h.2 x hl w' (hw.mono fun k hk => hk.imp id (hx k))⟩
theorem run_hold {w : World} (ty : TypeId) (hF : Fits t e k bytes z) (hE : Encs k enc) (hO : Hold k e enc ok ex wr base v l) (hb : Below wr.heap.size wr w) (hm : IsRows k enc w x m) (hmo : ∀ u ∈ m, Off ok w (Ex v ex) u) (hbase : base ≤ wr.heap.size) (hL : l.length ≤ 1000000) (hM : m.length ≤ 1000000) :
    ∃ p c w', (Builtin.append_ #[t, t] ty #[v, x]).run Tryd.prog w = .ok (.slice p (l ++ m).length c) w' ∧ Hold k e enc ok ex w' base (.slice p (l ++ m).length c) (l ++ m) ∧ Below base wr w' ∧ w.grownBy w' v.ownBlock := by
  obtain ⟨i0, hi, hz0, hz1, hz2⟩ := info_parts' hF.info
  have hown : w.ownsRow base e k v l.length (l.flatMap enc) := own_keep hO.1 hb
  have h1 : (l.length + m.length) * bytes ≤ 140737488355328 := Nat.le_trans (Nat.mul_le_mul (show l.length + m.length ≤ 2000000 by omega) hF.small) (by omega)
  obtain ⟨v', w', hr, hown', hg, hmv⟩ := run_append_rows enc t ty base e i0 _ k bytes hF.und hi hz0 hz1 hz2 hF.zs hF.pos v l.length _ hown x m hm (fun y _ => hE.len y) (fun y _ => hE.one y) (by unfold maxLen; omega) h1 (by have := hb.size; omega)
  have h2 : Owns k e enc w' base v' (l ++ m) := by unfold Owns; rw [List.length_append, List.flatMap_append]; exact hown'
  have h3 : Hold k e enc ok ex w' base v' (l ++ m) := by
    refine ⟨h2, fun u hu => ?_⟩
    have hu2 : Off ok w (Ex v ex) u := by
      rcases List.mem_append.1 hu with h | h
      · exact (hO.2 u h).keep hb
      · exact hmo u h
    have ha : Agree (Ex v ex) w w' := .of_grown hg fun k hk => .inl hk
    rcases hmv with e1 | e1
    · have : Ex v' ex = Ex v ex := by unfold Ex; rw [e1]
      rw [this]; exact hu2.agree ha
    · intro w2 hw2
      refine hu2 w2 ⟨hw2.os.trans hg.os, hw2.tape.trans hg.tape, hw2.output.trans hg.output, Nat.le_trans hg.size hw2.size, fun i hi hr => (hw2.block i (Nat.lt_of_lt_of_le hi hg.size) fun q => ?_).trans (ha.block i hi hr)⟩
      rcases q with q | q
      · rw [e1] at q; injection q with q; omega
      · exact hr (.inr q)
  obtain ⟨p, c, rfl⟩ := h3.form
  exact ⟨p, c, w', hr, h3, below_own hO.1 hb hg hbase, hg⟩
theorem wp_hold {w : World} {o : Oper} {a : Act} {K : Act → World → Prop} {Q : Exit → Act → World → Prop} (hF : Fits t e k bytes z) (hE : Encs k enc) (s y : Operand) (ho : o.op = .call { callee := .builtin .append, args := #[s, y], argTypes := #[t, t] })
    (hs : a.eval s = v) (hy : a.eval y = x) (hO : Hold k e enc ok ex wr base v l) (hb : Below wr.heap.size wr w) (hm : IsRows k enc w x m) (hmo : ∀ u ∈ m, Off ok w (Ex v ex) u) (hbase : base ≤ wr.heap.size) (hL : l.length ≤ 1000000) (hM : m.length ≤ 1000000)
    (h : ∀ p c w', Hold k e enc ok ex w' base (.slice p (l ++ m).length c) (l ++ m) → Below base wr w' → w.grownBy w' v.ownBlock → K (a.put o.dst (.slice p (l ++ m).length c)) w') : o.wp Tryd.prog a w K Q := by
  obtain ⟨p, c, w', hr, h2, h3, h4⟩ := run_hold o.type hF hE hO hb hm hmo hbase hL hM
  unfold Oper.wp execOp
  simp only [ho, resolve, invoke, builtin, Sem.run_bind, Sem.run_pure, Result.andThen_ok, List.map_toArray, List.map_cons, List.map_nil, hs, hy, hr]
  exact h p c w' h2 h3 h4
theorem wpList_hold {w : World} {ops : Array Oper} {rest : List Oper} {o : Oper} {a : Act} {Q : Exit → Act → World → Prop} (hF : Fits t e k bytes z) (hE : Encs k enc) (hgd : o.guard = none) (s y : Operand) (ho : o.op = .call { callee := .builtin .append, args := #[s, y], argTypes := #[t, t] })
    (hs : a.eval s = v) (hy : a.eval y = x) (hO : Hold k e enc ok ex wr base v l) (hb : Below wr.heap.size wr w) (hm : IsRows k enc w x m) (hmo : ∀ u ∈ m, Off ok w (Ex v ex) u) (hbase : base ≤ wr.heap.size) (hL : l.length ≤ 1000000) (hM : m.length ≤ 1000000)
    (h : ∀ p c w', Hold k e enc ok ex w' base (.slice p (l ++ m).length c) (l ++ m) → Below base wr w' → w.grownBy w' v.ownBlock → wpList Tryd.prog ops Q rest (a.put o.dst (.slice p (l ++ m).length c)) w') : wpList Tryd.prog ops Q (o :: rest) a w :=
  wpList_plain hgd fun _ hK => wp_hold hF hE s y ho hs hy hO hb hm hmo hbase hL hM fun p c w' h1 h2 h3 => hK _ _ (h p c w' h1 h2 h3)
theorem step_hold {w : World} {ops : Array Oper} {o : Oper} {a : Act} {K : Act → World → Prop} {Q : Exit → Act → World → Prop} {E : Prop} (hF : Fits t e k bytes z) (hE : Encs k enc) (hw : Region.wanted o (yielded ops a.tmps) = true) (s y : Operand) (ho : o.op = .call { callee := .builtin .append, args := #[s, y], argTypes := #[t, t] })
    (hs : a.eval s = v) (hy : a.eval y = x) (hO : Hold k e enc ok ex wr base v l) (hb : Below wr.heap.size wr w) (hm : IsRows k enc w x m) (hmo : ∀ u ∈ m, Off ok w (Ex v ex) u) (hbase : base ≤ wr.heap.size) (hL : l.length ≤ 1000000) (hM : m.length ≤ 1000000)
    (h : ∀ p c w', Hold k e enc ok ex w' base (.slice p (l ++ m).length c) (l ++ m) → Below base wr w' → w.grownBy w' v.ownBlock → K (a.put o.dst (.slice p (l ++ m).length c)) w') : if Region.wanted o (yielded ops a.tmps) = true then Oper.wp Tryd.prog o a w K Q else E := by
  rw [if_pos hw]
  exact wp_hold hF hE s y ho hs hy hO hb hm hmo hbase hL hM h
end
theorem IsRows.agree {α : Type} {k : Nat} {enc : α → List Value} {w w' : World} {v : Value} {l : List α} {X : Nat → Prop} (h : IsRows k enc w v l) (hg : Agree X w w') (hne : ∀ b, v.ownBlock = some b → ¬ X b) : IsRows k enc w' v l := by
  obtain ⟨a, c, rfl, hr, hm⟩ := h
  refine ⟨a, c, rfl, ?_, hm⟩
  rcases hr with h | ⟨b, off, rfl, hc⟩
  · exact .inl h
  · exact .inr ⟨b, off, rfl, fun i x hi j u hj => hg.cell (hc i x hi j u hj) (hne b rfl)⟩
theorem IsSpans.agree {w w' : World} {v : Value} {l : List Sp} {X : Nat → Prop} (h : IsSpans w v l) (hg : Agree X w w') (hne : ∀ b, v.ownBlock = some b → ¬ X b) : IsSpans w' v l := IsSpans.of_rows (h.rows.agree hg hne)
theorem RowOk.vals {w : World} {r : RR} (h : RowOk w r) : IsVals w r.av r.t := h.1
theorem RowOk.spans {w : World} {r : RR} (h : RowOk w r) : IsSpans w r.wv r.s := h.2
theorem rowOk_keep (w w' : World) (x : RR) (h : Below w.heap.size w w') (k : RowOk w x) : RowOk w' x := k.keep h
/-- A row of new slices. -/
theorem row_fresh {w : World} {r : RR} {base : Nat} {X : Nat → Prop} (h : RowOk w r) (ha : Fresh base r.av) (hw : Fresh base r.wv) (hx : ∀ k, X k → k < base) : Off RowOk w X r := fun w' k =>
  ⟨IsRows.agree h.1 k fun b hb e => by have := ha b hb; have := hx b e; omega, h.2.agree k fun b hb e => by have := hw b hb; have := hx b e; omega⟩
theorem Owns.fresh {α : Type} {k : Nat} {e : TypeId} {enc : α → List Value} {w : World} {base : Nat} {v : Value} {l : List α} (h : Owns k e enc w base v l) : Fresh base v := fun b hb => (h.lt b hb).1
theorem Hold.rel {w : World} {base : Nat} {v : Value} {l : List RR} {ex : Nat → Prop} (h : Hold 2 44 encR RowOk ex w base v l) (hm : l.length ≤ 9223372036854775807) : IsRel w v l := ⟨h.1.is encsR hm, fun x hx => Off.here (h.2 x hx)⟩
/-! ### the sort -/
theorem St.of_owns {w0 w : World} {G n c : Nat} {l : List RR} (hO : Owns 2 44 encR w w0.heap.size (.slice (some ⟨G, 0, none⟩) n c) l) (hb : Below w0.heap.size w0 w) (hok : ∀ x ∈ l, RowOk w0 x) : St w0 G l.toArray w := by
  rcases hO.2 with ⟨e, _⟩ | ⟨g, cap, cur, e, hg, hh, hnc, _, hsz, htk⟩
  · cases e
  · injection e with e1 e2 e3
    injection e1 with e1
    injection e1 with e1
    subst e1
    have hget : ∀ i j u, i < l.length → j < 2 → (encR l[i]!)[j]? = some u → cur[i * 2 + j]? = some u := by
      intro i j u hi hj hu
      have h1 := flats_get l (fun x _ => encsR.len x) i l[i]! (by rw [List.getElem?_eq_getElem hi]; simp [hi]) j u hu
      rw [← htk, List.getElem?_take] at h1
      split at h1
      · simpa using h1
      · cases h1
    refine ⟨hb, hg, ⟨cur, hh, ?_, fun i hi => ?_⟩, fun i hi => ?_⟩
    · rw [hsz]; simp; omega
    · have hi : i < l.length := by simpa using hi
      have e : (l.toArray)[i]! = l[i]! := by simp
      rw [e]
      exact ⟨hget i 0 _ hi (by omega) rfl, hget i 1 _ hi (by omega) rfl⟩
    · have hi : i < l.length := by simpa using hi
      have e : (l.toArray)[i]! = l[i]! := by simp
      rw [e]
      exact hok _ (by simp [hi])
theorem St.rel {w0 w : World} {G c : Nat} {d : Array RR} (S : St w0 G d w) (h1 : d.size ≤ c) (h2 : c ≤ 9223372036854775807) : IsRel w (.slice (some ⟨G, 0, none⟩) d.size c) d.toList := by
  refine ⟨⟨_, c, rfl, .inr ⟨G, 0, rfl, fun i x hi j u hj => ?_⟩, by simp; omega, by simpa using h1, h2⟩, fun x hx => ?_⟩
  · have hlt : i < d.size := by have := (List.getElem?_eq_some_iff.1 hi).1; simpa using this
    obtain ⟨c0, c1⟩ := S.cells hlt
    have hx : d[i]! = x := by
      have : d[i]? = some x := by simpa using hi
      rw [getElem!_pos d i hlt]
      rw [Array.getElem?_eq_getElem hlt] at this
      injection this
    rw [hx] at c0 c1
    rcases j with _ | _ | j
    · obtain rfl : x.av = u := by simpa [encR] using hj
      simpa using c0
    · obtain rfl : x.wv = u := by simpa [encR] using hj
      simpa using c1
    · simp [encR] at hj
  · obtain ⟨i, hi, rfl⟩ := List.getElem_of_mem hx
    have hlt : i < d.size := by simpa using hi
    have := S.row hlt
    rw [getElem!_pos d i hlt] at this
    simpa using this
def SortedR (l : List RR) : Prop := l.Pairwise fun x y => cmpT x.t y.t ≤ 0
theorem sortedR_of {d : Array RR} (h : SortedIn ltR 0 d.size d) : SortedR d.toList := by
  unfold SortedR
  rw [List.pairwise_iff_getElem]
  intro i j hi hj hij
  have hj' : j < d.size := by simpa using hj
  have hi' : i < d.size := by omega
  have := h i j (Nat.zero_le _) hij hj'
  unfold ltR at this
  rw [getElem!_pos d i hi', getElem!_pos d j hj', decide_eq_false_iff_not] at this
  simp only [Array.getElem_toList]
  have := cmpT_is.anti (d[j]).t (d[i]).t
  omega
theorem perm_of_in {d d' : Array RR} (h : PermIn 0 d.size d d') : d'.toList.Perm d.toList := by
  obtain ⟨h1, _, h2⟩ := h
  have e1 : d'.extract 0 d.size = d' := by rw [← h1]; simp
  have e2 : d.extract 0 d.size = d := by simp
  rw [e1, e2] at h2
  exact h2
set_option maxRecDepth 100000 in
theorem insertion_nil (p : Option Addr) (c : Nat) (w : World) : Calls Tryd.prog 152 #[.slice p 0 c, .int .i64 0, .int .i64 0, .func (.func 73) #[] #[]] w fun e w' => e = .returned (.tuple #[]) ∧ w = w' := by
  go_enter Tryd.func152, Tryd.ntmps152
  go_wp2
  go_loopg [8] 0 (fun g vi wr => vi = .int .i64 1 ∧ w = wr)
  case atStart => exact ⟨rfl, rfl⟩
  case round =>
    obtain ⟨rfl, rfl⟩ := hrel
    go_wp2
    go_end0
    exact ⟨rfl, rfl⟩
set_option maxRecDepth 100000 in
theorem stable_nil (p : Option Addr) (c : Nat) (w : World) : Calls Tryd.prog 144 #[.slice p 0 c, .int .i64 0, .func (.func 73) #[] #[]] w fun e w' => e = .returned (.tuple #[]) ∧ w = w' := by
  go_enter Tryd.func144, Tryd.ntmps144
  go_wp2
  go_loopg [7, 8] 0 (fun g va vb wr => va = .int .i64 0 ∧ vb = .int .i64 20 ∧ w = wr)
  case atStart => exact ⟨rfl, rfl, rfl⟩
  case round =>
    obtain ⟨rfl, rfl, rfl⟩ := hrel
    go_wp2_with fail
    refine (insertion_nil p c _).mono ?_
    rintro e w1 ⟨rfl, rfl⟩
    go_wp2
    go_loopg [6] 0 (fun g va wr => va = .int .i64 20 ∧ w = wr)
    case atStart => exact ⟨rfl, rfl⟩
    case round =>
      obtain ⟨rfl, rfl⟩ := hrel
      go_wp2
      go_end0
      exact ⟨rfl, rfl⟩
theorem sort_any (w0 w : World) (u : Value) (l : List RR) (hO : Owns 2 44 encR w w0.heap.size u l) (hb : Below w0.heap.size w0 w) (hok : ∀ x ∈ l, RowOk w0 x) (hl : l.length ≤ 1000000) :
    Calls Tryd.prog 128 #[u, .func (.func 73) #[] #[]] w fun e w' => e = .returned (.tuple #[]) ∧ ∃ l', l'.Perm l ∧ SortedR l' ∧ IsRel w' u l' ∧ Below w0.heap.size w0 w' := by
  rcases hO.2 with ⟨rfl, e⟩ | ⟨g, cap, cur, rfl, _, _, hnc, hcm, _⟩
  · have hn : l = [] := List.eq_nil_of_length_eq_zero e
    subst hn
    go_enter Tryd.func128, Tryd.ntmps128
    go_wp2_with fail
    refine (stable_nil none 0 _).mono ?_
    rintro e w1 ⟨rfl, rfl⟩
    go_wp2
    go_end0
    exact ⟨rfl, [], List.Perm.refl _, List.Pairwise.nil, IsRel.nil _, hb⟩
  · have S := St.of_owns hO hb hok
    have hc : cap ≤ 9223372036854775807 := by unfold maxLen at hcm; omega
    clear hO hb hcm
    go_enter Tryd.func128, Tryd.ntmps128
    go_wp2_with fail
    refine (stable_any w0 g cap l.length hl l.toArray _ S (by simp)).mono ?_
    rintro e w1 ⟨rfl, d', S2, P, T⟩
    have hz : d'.size = l.length := by have := P.1; simpa using this
    have R := Lib.hid (show IsRel w1 (.slice (some ⟨g, 0, none⟩) l.length cap) d'.toList by have := S2.rel (c := cap) (by omega) hc; rwa [hz] at this)
    have PP := Lib.hid (show d'.toList.Perm l by have := perm_of_in (d := l.toArray) (d' := d') (by simpa using P); simpa using this)
    have TT := Lib.hid (sortedR_of (d := d') (by rw [hz]; exact T))
    have BB := S2.below
    clear P T S S2
    go_wp2
    go_end0
    exact ⟨rfl, _, PP.out, TT.out, R.out, BB⟩
end Go.Proofs.YtdibijhaiaiifaaDoor
/- The plain laws of canonical: the loop over a sorted list. -/
namespace Go.Proofs.YtdibijhaiaiifaaDoor
open Go.RowKit
/-- Rows few and small. -/
structure Sml (n : Nat) (xs : List RR) : Prop where
  len : xs.length ≤ n
  each : ∀ x ∈ xs, x.t.length ≤ 64 ∧ x.s.length ≤ 64
/-- Nothing that it reads lies before base. -/
def IsRelF (w : World) (base : Nat) (v : Value) (ys : List RR) : Prop := ∀ w', Agree (fun k => k < base) w w' → IsRel w' v ys
theorem IsRelF.rel {w : World} {base : Nat} {v : Value} {ys : List RR} (h : IsRelF w base v ys) : IsRel w v ys := h w (Agree.refl _ _)
theorem IsRelF.keep {w w' : World} {base : Nat} {v : Value} {ys : List RR} (h : IsRelF w base v ys) (hb : Below w.heap.size w w') : IsRelF w' base v ys := fun w2 h2 => h w2 ((Agree.of_below hb).trans h2)
theorem IsRelF.mono {w : World} {a b : Nat} {v : Value} {ys : List RR} (h : IsRelF w b v ys) (hab : a ≤ b) : IsRelF w a v ys := fun w2 h2 => h w2 (h2.mono fun _ hk => Nat.lt_of_lt_of_le hk hab)
theorem Hold.relF {w : World} {base n : Nat} {v : Value} {l : List RR} (h : Hold 2 44 encR RowOk (fun k => k < n) w base v l) (hn : n ≤ base) (hm : l.length ≤ 9223372036854775807) : IsRelF w n v l := fun _ hw => (h.agree hw fun _ hk => Nat.lt_of_lt_of_le hk hn).rel hm
structure CanOf (xs ys : List RR) : Prop where
  can : IsCan (rows ys)
  mom : ∀ t k, k < 64 → mom (rows ys) t k = mom (rows xs) t k
  sml : ∀ n, Sml n xs → Sml n ys
theorem Up_snoc {a : List Rw} {x : Rw} (h : Up a) (hx : ∀ y ∈ a, cmpT y.1 x.1 < 0) : Up (a ++ [x]) := by
  induction a with
  | nil => exact ⟨by simp, trivial⟩
  | cons y a ih =>
    refine ⟨fun z hz => ?_, ih h.2 fun z hz => hx z (by simp [hz])⟩
    rcases List.mem_append.1 hz with hz | hz
    · exact h.1 z hz
    · simp at hz; subst hz; exact hx y (by simp)
theorem mem_rows {l : List RR} {y : Rw} : y ∈ rows l ↔ ∃ x ∈ l, x.rw = y := by simp [rows]
theorem can_snoc {out : List RR} {r : RR} (h : IsCan (rows out)) (hx : ∀ y ∈ out, cmpT y.t r.t < 0) (hr : OkW r.s) : IsCan (rows (out ++ [r])) := by
  rw [rows_append]
  refine ⟨Up_snoc h.1 fun y hy => ?_, fun y hy => ?_⟩
  · obtain ⟨x, hx', rfl⟩ := mem_rows.1 hy
    exact hx x hx'
  · rcases List.mem_append.1 hy with hy | hy
    · exact h.2 y hy
    · obtain ⟨x, hx', rfl⟩ := mem_rows.1 hy
      simp at hx'; subst hx'; exact hr
theorem okW_canon {S : Nat → Bool} (h : canon S ≠ []) : OkW (canon S) := ⟨h, canon_again S⟩
theorem canon_none {S : Nat → Bool} (h : canon S = []) {k : Nat} (hk : k < 64) : S k = false := by
  rw [← setOf_canon S k hk, h]; rfl
structure CInv (L out : List RR) (i : Nat) : Prop where
  can : IsCan (rows out)
  mom : ∀ t k, k < 64 → mom (rows out) t k = mom (rows (L.take i)) t k
  lt : ∀ x ∈ out, ∀ y ∈ L.drop i, cmpT x.t y.t < 0
  len : out.length ≤ i
  each : (∀ x ∈ L, x.t.length ≤ 64 ∧ x.s.length ≤ 64) → ∀ x ∈ out, x.t.length ≤ 64 ∧ x.s.length ≤ 64
theorem CInv.start (L : List RR) : CInv L [] 0 := ⟨⟨trivial, by simp [rows]⟩, fun _ _ _ => by simp, by simp, Nat.le_refl _, by simp⟩
theorem CInv.done {L out xs : List RR} {i : Nat} (h : CInv L out i) (hi : i = L.length) (hp : L.Perm xs) : CanOf xs out := by
  refine ⟨h.can, fun t k hk => ?_, fun n hs => ⟨?_, h.each fun x hx => hs.each x (hp.mem_iff.1 hx)⟩⟩
  · rw [h.mom t k hk, hi, List.take_length]
    exact mom_perm (hp.map _) t k
  · have := h.len; have := hs.len; have := hp.length_eq; omega
structure WInv (L : List RR) (t : Tp) (i k : Nat) (W : List Sp) : Prop where
  le : i ≤ k
  same : ∀ y ∈ (L.drop i).take (k - i), y.t = t
  set : ∀ j, setOf W j = mom (rows ((L.drop i).take (k - i))) t j
  len : (∀ x ∈ L, x.t.length ≤ 64 ∧ x.s.length ≤ 64) → W.length ≤ (k - i) * 64
theorem WInv.start (L : List RR) (t : Tp) (i : Nat) : WInv L t i i [] := ⟨Nat.le_refl _, by simp, fun j => by simp; rfl, by simp⟩
theorem setOf_cat (a b : List Sp) (k : Nat) : setOf (a ++ b) k = (setOf a k || setOf b k) := by simp [setOf, has, List.any_append]
theorem WInv.step {L : List RR} {t : Tp} {i k : Nat} {W : List Sp} (h : WInv L t i k W) {x : RR} (hx : L[k]? = some x) (he : cmpT t x.t = 0) : WInv L t i (k + 1) (W ++ x.s) := by
  have ht := (cmpT_is.eq _ _).1 he
  have hle := h.le
  have e : (L.drop i).take (k + 1 - i) = (L.drop i).take (k - i) ++ [x] := by
    rw [show k + 1 - i = (k - i) + 1 by omega, List.take_add_one, List.getElem?_drop, show i + (k - i) = k by omega, hx]
    rfl
  refine ⟨by omega, ?_, fun j => ?_, fun hs => ?_⟩
  · rw [e]
    intro y hy
    rcases List.mem_append.1 hy with hy | hy
    · exact h.same y hy
    · simp at hy; subst hy; exact ht.symm
  · rw [setOf_cat, e, rows_append, mom_append, h.set j]
    congr 1
    show _ = ((decide (x.t = t) && setOf x.s j) || false)
    rw [decide_eq_true ht.symm, Bool.true_and, Bool.or_false]
  · have h1 := h.len hs
    have h2 := (hs x (List.mem_of_getElem? hx)).2
    rw [List.length_append, show k + 1 - i = (k - i) + 1 by omega, Nat.add_mul]
    omega
theorem mom_same {P : List RR} {t t' : Tp} (h : ∀ y ∈ P, y.t = t) (hne : t ≠ t') (j : Nat) : mom (rows P) t' j = false := by
  unfold mom
  rw [List.any_eq_false]
  intro y hy
  obtain ⟨x, hx, rfl⟩ := mem_rows.1 hy
  have : x.rw.1 ≠ t' := by rw [show x.rw.1 = x.t from rfl, h x hx]; exact hne
  simp [this]
theorem take_split {L : List RR} {i k : Nat} (h : i ≤ k) : L.take k = L.take i ++ (L.drop i).take (k - i) := by
  have := List.take_add (l := L) (i := i) (j := k - i)
  rwa [show i + (k - i) = k by omega] at this
theorem drop_mem {L : List RR} {i k : Nat} (h : i ≤ k) {y : RR} (hy : y ∈ L.drop k) : y ∈ L.drop i := by
  have e : L.drop k = (L.drop i).drop (k - i) := by rw [List.drop_drop]; congr 1; omega
  rw [e] at hy
  exact List.mem_of_mem_drop hy
section
variable {L out : List RR} {i k : Nat} {W : List Sp} {r : RR}
theorem CInv.skip (h : CInv L out i) (hw : WInv L r.t i k W) (h0 : canon (setOf W) = []) : CInv L out k := by
  have hle := hw.le
  refine ⟨h.can, fun t j hj => ?_, fun x hx y hy => h.lt x hx y (drop_mem hw.le hy), by have := h.len; omega, h.each⟩
  rw [take_split hw.le, rows_append, mom_append, h.mom t j hj]
  by_cases e : r.t = t
  · subst e
    rw [← hw.set j, canon_none h0 hj, Bool.or_false]
  · rw [mom_same hw.same e, Bool.or_false]
theorem CInv.put (hs : SortedR L) (h : CInv L out i) (hi : L[i]? = some r) (hw : WInv L r.t i k W) (hik : i < k) (hend : ∀ x, L[k]? = some x → ¬ cmpT r.t x.t = 0) (h0 : canon (setOf W) ≠ []) {q : RR} (hq : q.t = r.t) (hqs : q.s = canon (setOf W)) : CInv L (out ++ [q]) k := by
  have hle := hw.le
  have hri : r ∈ L.drop i := by
    refine List.mem_of_getElem? (i := 0) ?_
    rw [List.getElem?_drop]; exact hi
  refine ⟨can_snoc h.can (fun y hy => by rw [hq]; exact h.lt y hy r hri) (by rw [hqs]; exact okW_canon h0), fun t j hj => ?_, fun x hx y hy => ?_, ?_, fun hx y hy => ?_⟩
  · rw [rows_append, mom_append, take_split hw.le, rows_append, mom_append, h.mom t j hj]
    congr 1
    show ((decide (q.t = t) && setOf q.s j) || false) = _
    rw [Bool.or_false, hq, hqs, setOf_canon _ _ hj]
    by_cases e : r.t = t
    · subst e
      rw [decide_eq_true rfl, Bool.true_and, hw.set j]
    · rw [mom_same hw.same e, decide_eq_false e, Bool.false_and]
  · rcases List.mem_append.1 hx with hx | hx
    · exact h.lt x hx y (drop_mem hw.le hy)
    · simp at hx; subst hx
      rw [hq]
      obtain ⟨j, hj⟩ := List.getElem?_of_mem hy
      rw [List.getElem?_drop] at hj
      have hkj := (List.getElem?_eq_some_iff.1 hj).1
      have hk : k < L.length := by omega
      have hkx := List.getElem?_eq_getElem hk
      have hne := hend _ hkx
      have p := List.pairwise_iff_getElem.1 hs
      obtain ⟨hil, hie⟩ := List.getElem?_eq_some_iff.1 hi
      have p1 := p i k hil hk hik
      rw [hie] at p1
      have p1' : cmpT r.t L[k].t < 0 := by omega
      cases j with
      | zero =>
        rw [Nat.add_zero, hkx] at hj
        cases hj; exact p1'
      | succ j =>
        obtain ⟨hjl, hje⟩ := List.getElem?_eq_some_iff.1 hj
        have p2 := p k (k + (j + 1)) hk hjl (by omega)
        rw [hje] at p2
        exact cmpT_is.lt_le p1' p2
  · have := h.len; simp; omega
  · rcases List.mem_append.1 hy with hy | hy
    · exact h.each hx y hy
    · simp at hy; subst hy
      rw [hq, hqs]
      exact ⟨(hx r (List.mem_of_getElem? hi)).1, Nat.le_trans (canon_le _) (by omega)⟩
theorem WInv.more (hw : WInv L r.t i k W) (hi : L[i]? = some r) (hend : k = L.length ∨ ∀ x, L[k]? = some x → ¬ cmpT r.t x.t = 0) : i < k := by
  rcases Nat.lt_or_eq_of_le hw.le with h | h
  · exact h
  · subst h
    rcases hend with h | h
    · have := (List.getElem?_eq_some_iff.1 hi).1; omega
    · exact absurd (cmpT_is.refl _) (h r hi)
end
end Go.Proofs.YtdibijhaiaiifaaDoor
