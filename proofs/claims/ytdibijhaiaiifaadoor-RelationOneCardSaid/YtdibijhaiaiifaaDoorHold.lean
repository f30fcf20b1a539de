/- Slices that a call owns whose rows lead to further memory; the library's SortStableFunc. -/
import Derived.Test.YtdibijhaiaiifaaDoorSg
namespace Go.Proofs.YtdibijhaiaiifaaDoor
open Go.RowKit
open Go.Sort
/-- The worlds agree but at the blocks X; the second may have more of them. -/
structure Agree (X : Nat → Prop) (A B : World) : Prop where
  os : B.os = A.os
  tape : B.tape = A.tape
  output : B.output = A.output
  size : A.heap.size ≤ B.heap.size
  block : ∀ k, k < A.heap.size → ¬ X k → B.heap[k]? = A.heap[k]?
theorem Agree.refl (X : Nat → Prop) (A : World) : Agree X A A := ⟨rfl, rfl, rfl, Nat.le_refl _, fun _ _ _ => rfl⟩
theorem Agree.trans {X : Nat → Prop} {A B C : World} (h : Agree X A B) (k : Agree X B C) : Agree X A C :=
  ⟨k.os.trans h.os, k.tape.trans h.tape, k.output.trans h.output, Nat.le_trans h.size k.size, fun i hi hx => (k.block i (Nat.lt_of_lt_of_le hi h.size) hx).trans (h.block i hi hx)⟩
theorem Agree.mono {X Y : Nat → Prop} {A B : World} (h : Agree X A B) (hxy : ∀ k, X k → Y k) : Agree Y A B := ⟨h.os, h.tape, h.output, h.size, fun k hk hy => h.block k hk fun hx => hy (hxy k hx)⟩
theorem Agree.of_below {X : Nat → Prop} {A B : World} (h : Below A.heap.size A B) : Agree X A B := ⟨h.os, h.tape, h.output, h.size, fun k hk _ => h.block k hk⟩
theorem Agree.of_grown {X : Nat → Prop} {A B : World} {r : Option Nat} (h : A.grownBy B r) (hr : ∀ k, r = some k → X k) : Agree X A B := ⟨h.os, h.tape, h.output, h.size, fun k hk hx => h.block k hk fun e => hx (hr k e.symm)⟩
/-- Where all that differs lies at or behind n. -/
theorem Agree.below {X : Nat → Prop} {A B : World} (h : Agree X A B) {n : Nat} (hn : n ≤ A.heap.size) (hx : ∀ k, X k → n ≤ k) : Below n A B := ⟨h.os, h.tape, h.output, h.size, fun k hk => h.block k (by omega) fun e => by have := hx k e; omega⟩
theorem Agree.cell {X : Nat → Prop} {A B : World} (h : Agree X A B) {p : Addr} {v : Value} (hc : A.cell? p = some v) (hx : ¬ X p.block) : B.cell? p = some v := (World.cell?_of_block (h.block p.block (cell_lt hc) hx)).trans hc
def noB : Nat → Prop := fun _ => False
/-- The block of v, or one of ex. -/
def Ex (v : Value) (ex : Nat → Prop) : Nat → Prop := fun k => v.ownBlock = some k ∨ ex k
section
variable {α : Type} {ok : World → α → Prop}
/-- Whatever becomes of the blocks X, x is as it should be. -/
def Off (ok : World → α → Prop) (w : World) (X : Nat → Prop) (x : α) : Prop := ∀ w', Agree X w w' → ok w' x
theorem Off.here {w : World} {X : Nat → Prop} {x : α} (h : Off ok w X x) : ok w x := h w (Agree.refl _ _)
theorem Off.agree {w w' : World} {X : Nat → Prop} {x : α} (h : Off ok w X x) (hg : Agree X w w') : Off ok w' X x := fun w2 h2 => h w2 (hg.trans h2)
theorem Off.keep {w w' : World} {X : Nat → Prop} {x : α} (h : Off ok w X x) (hb : Below w.heap.size w w') : Off ok w' X x := h.agree (.of_below hb)
/-- What is elder than X. -/
theorem Off.old {w w' : World} {X : Nat → Prop} {x : α} (hk : ∀ w w' : World, Below w.heap.size w w' → ok w x → ok w' x) (h : ok w x) (hb : Below w.heap.size w w') (hx : ∀ k, X k → w.heap.size ≤ k) : Off ok w' X x := fun w2 h2 =>
  hk w w2 (hb.trans (h2.below hb.size hx)) h
/-- A slice that the call owns, and its rows apart from it and from the blocks ex. -/
def Hold (k : Nat) (e : TypeId) (enc : α → List Value) (ok : World → α → Prop) (ex : Nat → Prop) (w : World) (base : Nat) (v : Value) (l : List α) : Prop := Owns k e enc w base v l ∧ ∀ x ∈ l, Off ok w (Ex v ex) x
variable {k bytes : Nat} {t e : TypeId} {z : Value} {enc : α → List Value} {wr w w' : World} {base : Nat} {v x : Value} {l m : List α} {ex : Nat → Prop}
theorem Owns.agree {X : Nat → Prop} (h : Owns k e enc w base v l) (hg : Agree X w w') (hx : ∀ k, X k → k < base) : Owns k e enc w' base v l := by
  refine ⟨h.1, ?_⟩
  rcases h.2 with h | ⟨g, cap, cur, e1, hb, hh, r⟩
  · exact .inl h
  · exact .inr ⟨g, cap, cur, e1, hb, (hg.block g (block_lt hh) fun q => by have := hx g q; omega).trans hh, r⟩
theorem Hold.keep (h : Hold k e enc ok ex w base v l) (hb : Below w.heap.size w w') : Hold k e enc ok ex w' base v l := ⟨h.1.keep hb, fun x hx => (h.2 x hx).keep hb⟩
theorem Hold.agree (h : Hold k e enc ok ex w base v l) (hg : Agree ex w w') (hx : ∀ k, ex k → k < base) : Hold k e enc ok ex w' base v l := ⟨h.1.agree hg hx, fun x hx => (h.2 x hx).agree (hg.mono fun _ h => .inr h)⟩
theorem Hold.nil (w : World) (base : Nat) : Hold k e enc ok ex w base (.slice none 0 0) [] := ⟨Owns.nil _ _, by simp⟩
theorem Hold.form (h : Hold k e enc ok ex w base v l) : ∃ a c, v = .slice a l.length c := h.1.form
theorem Hold.less {ey : Nat → Prop} (h : Hold k e enc ok ex w base v l) (hx : ∀ k, ey k → ex k) : Hold k e enc ok ey w base v l := ⟨h.1, fun x hl w' hw => h.2 x hl w' (hw.mono fun k hk => hk.imp id (hx k))⟩
theorem run_hold {w : World} (ty : TypeId) (hF : Fits t e k bytes z) (hE : Encs k enc) (hO : Hold k e enc ok ex wr base v l) (hb : Below wr.heap.size wr w) (hm : IsRows k enc w x m) (hmo : ∀ u ∈ m, Off ok w (Ex v ex) u) (hbase : base ≤ wr.heap.size) (hL : l.length ≤ 1000000) (hM : m.length ≤ 1000000) :
    ∃ p c w', (Builtin.append_ #[t, t] ty #[v, x]).run Tryd.prog w = .ok (.slice p (l ++ m).length c) w' ∧ Hold k e enc ok ex w' base (.slice p (l ++ m).length c) (l ++ m) ∧ Below base wr w' ∧ w.grownBy w' v.ownBlock := by
  obtain ⟨i0, hi, hz0, hz1, hz2⟩ := info_parts' hF.info
  have hown : w.ownsRow base e k v l.length (l.flatMap enc) := own_keep hO.1 hb
  have h1 : (l.length + m.length) * bytes ≤ 140737488355328 := Nat.le_trans (Nat.mul_le_mul (show l.length + m.length ≤ 2000000 by omega) hF.small) (by omega)
  obtain ⟨v', w', hr, hown', hg, hmv⟩ := run_append_rows enc t ty base e i0 _ k bytes hF.und hi hz0 hz1 hz2 hF.zs hF.pos v l.length _ hown x m hm (fun y _ => hE.len y) (fun y _ => hE.one y) (by unfold maxLen; omega) h1 (by have := hb.size; omega)
  have h2 : Owns k e enc w' base v' (l ++ m) := by unfold Owns; rw [List.length_append, List.flatMap_append]; exact hown'
  have h3 : Hold k e enc ok ex w' base v' (l ++ m) := by
    refine ⟨h2, fun u hu => ?_⟩
    have hu2 : Off ok w (Ex v ex) u := by
      rcases List.mem_append.1 hu with h | h
      · exact (hO.2 u h).keep hb
      · exact hmo u h
    have ha : Agree (Ex v ex) w w' := .of_grown hg fun k hk => .inl hk
    rcases hmv with e1 | e1
    · have : Ex v' ex = Ex v ex := by unfold Ex; rw [e1]
      rw [this]; exact hu2.agree ha
    · intro w2 hw2
      refine hu2 w2 ⟨hw2.os.trans hg.os, hw2.tape.trans hg.tape, hw2.output.trans hg.output, Nat.le_trans hg.size hw2.size, fun i hi hr => (hw2.block i (Nat.lt_of_lt_of_le hi hg.size) fun q => ?_).trans (ha.block i hi hr)⟩
      rcases q with q | q
      · rw [e1] at q; injection q with q; omega
      · exact hr (.inr q)
  obtain ⟨p, c, rfl⟩ := h3.form
  exact ⟨p, c, w', hr, h3, below_own hO.1 hb hg hbase, hg⟩
theorem wp_hold {w : World} {o : Oper} {a : Act} {K : Act → World → Prop} {Q : Exit → Act → World → Prop} (hF : Fits t e k bytes z) (hE : Encs k enc) (s y : Operand) (ho : o.op = .call { callee := .builtin .append, args := #[s, y], argTypes := #[t, t] })
    (hs : a.eval s = v) (hy : a.eval y = x) (hO : Hold k e enc ok ex wr base v l) (hb : Below wr.heap.size wr w) (hm : IsRows k enc w x m) (hmo : ∀ u ∈ m, Off ok w (Ex v ex) u) (hbase : base ≤ wr.heap.size) (hL : l.length ≤ 1000000) (hM : m.length ≤ 1000000)
    (h : ∀ p c w', Hold k e enc ok ex w' base (.slice p (l ++ m).length c) (l ++ m) → Below base wr w' → w.grownBy w' v.ownBlock → K (a.put o.dst (.slice p (l ++ m).length c)) w') : o.wp Tryd.prog a w K Q := by
  obtain ⟨p, c, w', hr, h2, h3, h4⟩ := run_hold o.type hF hE hO hb hm hmo hbase hL hM
  unfold Oper.wp execOp
  simp only [ho, resolve, invoke, builtin, Sem.run_bind, Sem.run_pure, Result.andThen_ok, List.map_toArray, List.map_cons, List.map_nil, hs, hy, hr]
  exact h p c w' h2 h3 h4
theorem wpList_hold {w : World} {ops : Array Oper} {rest : List Oper} {o : Oper} {a : Act} {Q : Exit → Act → World → Prop} (hF : Fits t e k bytes z) (hE : Encs k enc) (hgd : o.guard = none) (s y : Operand) (ho : o.op = .call { callee := .builtin .append, args := #[s, y], argTypes := #[t, t] })
    (hs : a.eval s = v) (hy : a.eval y = x) (hO : Hold k e enc ok ex wr base v l) (hb : Below wr.heap.size wr w) (hm : IsRows k enc w x m) (hmo : ∀ u ∈ m, Off ok w (Ex v ex) u) (hbase : base ≤ wr.heap.size) (hL : l.length ≤ 1000000) (hM : m.length ≤ 1000000)
    (h : ∀ p c w', Hold k e enc ok ex w' base (.slice p (l ++ m).length c) (l ++ m) → Below base wr w' → w.grownBy w' v.ownBlock → wpList Tryd.prog ops Q rest (a.put o.dst (.slice p (l ++ m).length c)) w') : wpList Tryd.prog ops Q (o :: rest) a w :=
  wpList_plain hgd fun _ hK => wp_hold hF hE s y ho hs hy hO hb hm hmo hbase hL hM fun p c w' h1 h2 h3 => hK _ _ (h p c w' h1 h2 h3)
theorem step_hold {w : World} {ops : Array Oper} {o : Oper} {a : Act} {K : Act → World → Prop} {Q : Exit → Act → World → Prop} {E : Prop} (hF : Fits t e k bytes z) (hE : Encs k enc) (hw : Region.wanted o (yielded ops a.tmps) = true) (s y : Operand) (ho : o.op = .call { callee := .builtin .append, args := #[s, y], argTypes := #[t, t] })
    (hs : a.eval s = v) (hy : a.eval y = x) (hO : Hold k e enc ok ex wr base v l) (hb : Below wr.heap.size wr w) (hm : IsRows k enc w x m) (hmo : ∀ u ∈ m, Off ok w (Ex v ex) u) (hbase : base ≤ wr.heap.size) (hL : l.length ≤ 1000000) (hM : m.length ≤ 1000000)
    (h : ∀ p c w', Hold k e enc ok ex w' base (.slice p (l ++ m).length c) (l ++ m) → Below base wr w' → w.grownBy w' v.ownBlock → K (a.put o.dst (.slice p (l ++ m).length c)) w') : if Region.wanted o (yielded ops a.tmps) = true then Oper.wp Tryd.prog o a w K Q else E := by
  rw [if_pos hw]
  exact wp_hold hF hE s y ho hs hy hO hb hm hmo hbase hL hM h
end
theorem IsRows.agree {α : Type} {k : Nat} {enc : α → List Value} {w w' : World} {v : Value} {l : List α} {X : Nat → Prop} (h : IsRows k enc w v l) (hg : Agree X w w') (hne : ∀ b, v.ownBlock = some b → ¬ X b) : IsRows k enc w' v l := by
  obtain ⟨a, c, rfl, hr, hm⟩ := h
  refine ⟨a, c, rfl, ?_, hm⟩
  rcases hr with h | ⟨b, off, rfl, hc⟩
  · exact .inl h
  · exact .inr ⟨b, off, rfl, fun i x hi j u hj => hg.cell (hc i x hi j u hj) (hne b rfl)⟩
theorem IsSpans.agree {w w' : World} {v : Value} {l : List Sp} {X : Nat → Prop} (h : IsSpans w v l) (hg : Agree X w w') (hne : ∀ b, v.ownBlock = some b → ¬ X b) : IsSpans w' v l := IsSpans.of_rows (h.rows.agree hg hne)
theorem RowOk.vals {w : World} {r : RR} (h : RowOk w r) : IsVals w r.av r.t := h.1
theorem RowOk.spans {w : World} {r : RR} (h : RowOk w r) : IsSpans w r.wv r.s := h.2
theorem rowOk_keep (w w' : World) (x : RR) (h : Below w.heap.size w w') (k : RowOk w x) : RowOk w' x := k.keep h
/-- A row of new slices. -/
theorem row_fresh {w : World} {r : RR} {base : Nat} {X : Nat → Prop} (h : RowOk w r) (ha : Fresh base r.av) (hw : Fresh base r.wv) (hx : ∀ k, X k → k < base) : Off RowOk w X r := fun w' k =>
  ⟨IsRows.agree h.1 k fun b hb e => by have := ha b hb; have := hx b e; omega, h.2.agree k fun b hb e => by have := hw b hb; have := hx b e; omega⟩
theorem Owns.fresh {α : Type} {k : Nat} {e : TypeId} {enc : α → List Value} {w : World} {base : Nat} {v : Value} {l : List α} (h : Owns k e enc w base v l) : Fresh base v := fun b hb => (h.lt b hb).1
theorem Hold.rel {w : World} {base : Nat} {v : Value} {l : List RR} {ex : Nat → Prop} (h : Hold 2 44 encR RowOk ex w base v l) (hm : l.length ≤ 9223372036854775807) : IsRel w v l := ⟨h.1.is encsR hm, fun x hx => Off.here (h.2 x hx)⟩
/-! ### the sort -/
theorem St.of_owns {w0 w : World} {G n c : Nat} {l : List RR} (hO : Owns 2 44 encR w w0.heap.size (.slice (some ⟨G, 0, none⟩) n c) l) (hb : Below w0.heap.size w0 w) (hok : ∀ x ∈ l, RowOk w0 x) : St w0 G l.toArray w := by
  rcases hO.2 with ⟨e, _⟩ | ⟨g, cap, cur, e, hg, hh, hnc, _, hsz, htk⟩
  · cases e
  · injection e with e1 e2 e3
    injection e1 with e1
    injection e1 with e1
    subst e1
    have hget : ∀ i j u, i < l.length → j < 2 → (encR l[i]!)[j]? = some u → cur[i * 2 + j]? = some u := by
      intro i j u hi hj hu
      have h1 := flats_get l (fun x _ => encsR.len x) i l[i]! (by rw [List.getElem?_eq_getElem hi]; simp [hi]) j u hu
      rw [← htk, List.getElem?_take] at h1
      split at h1
      · simpa using h1
      · cases h1
    refine ⟨hb, hg, ⟨cur, hh, ?_, fun i hi => ?_⟩, fun i hi => ?_⟩
    · rw [hsz]; simp; omega
    · have hi : i < l.length := by simpa using hi
      have e : (l.toArray)[i]! = l[i]! := by simp
      rw [e]
      exact ⟨hget i 0 _ hi (by omega) rfl, hget i 1 _ hi (by omega) rfl⟩
    · have hi : i < l.length := by simpa using hi
      have e : (l.toArray)[i]! = l[i]! := by simp
      rw [e]
      exact hok _ (by simp [hi])
theorem St.rel {w0 w : World} {G c : Nat} {d : Array RR} (S : St w0 G d w) (h1 : d.size ≤ c) (h2 : c ≤ 9223372036854775807) : IsRel w (.slice (some ⟨G, 0, none⟩) d.size c) d.toList := by
  refine ⟨⟨_, c, rfl, .inr ⟨G, 0, rfl, fun i x hi j u hj => ?_⟩, by simp; omega, by simpa using h1, h2⟩, fun x hx => ?_⟩
  · have hlt : i < d.size := by have := (List.getElem?_eq_some_iff.1 hi).1; simpa using this
    obtain ⟨c0, c1⟩ := S.cells hlt
    have hx : d[i]! = x := by
      have : d[i]? = some x := by simpa using hi
      rw [getElem!_pos d i hlt]
      rw [Array.getElem?_eq_getElem hlt] at this
      injection this
    rw [hx] at c0 c1
    rcases j with _ | _ | j
    · obtain rfl : x.av = u := by simpa [encR] using hj
      simpa using c0
    · obtain rfl : x.wv = u := by simpa [encR] using hj
      simpa using c1
    · simp [encR] at hj
  · obtain ⟨i, hi, rfl⟩ := List.getElem_of_mem hx
    have hlt : i < d.size := by simpa using hi
    have := S.row hlt
    rw [getElem!_pos d i hlt] at this
    simpa using this
def SortedR (l : List RR) : Prop := l.Pairwise fun x y => cmpT x.t y.t ≤ 0
theorem sortedR_of {d : Array RR} (h : SortedIn ltR 0 d.size d) : SortedR d.toList := by
  unfold SortedR
  rw [List.pairwise_iff_getElem]
  intro i j hi hj hij
  have hj' : j < d.size := by simpa using hj
  have hi' : i < d.size := by omega
  have := h i j (Nat.zero_le _) hij hj'
  unfold ltR at this
  rw [getElem!_pos d i hi', getElem!_pos d j hj', decide_eq_false_iff_not] at this
  simp only [Array.getElem_toList]
  have := cmpT_is.anti (d[j]).t (d[i]).t
  omega
theorem perm_of_in {d d' : Array RR} (h : PermIn 0 d.size d d') : d'.toList.Perm d.toList := by
  obtain ⟨h1, _, h2⟩ := h
  have e1 : d'.extract 0 d.size = d' := by rw [← h1]; simp
  have e2 : d.extract 0 d.size = d := by simp
  rw [e1, e2] at h2
  exact h2
set_option maxRecDepth 100000 in
theorem insertion_nil (p : Option Addr) (c : Nat) (w : World) : Calls Tryd.prog 152 #[.slice p 0 c, .int .i64 0, .int .i64 0, .func (.func 73) #[] #[]] w fun e w' => e = .returned (.tuple #[]) ∧ w = w' := by
  go_enter Tryd.func152, Tryd.ntmps152
  go_wp2
  go_loopg [8] 0 (fun g vi wr => vi = .int .i64 1 ∧ w = wr)
  case atStart => exact ⟨rfl, rfl⟩
  case round =>
    obtain ⟨rfl, rfl⟩ := hrel
    go_wp2
    go_end0
    exact ⟨rfl, rfl⟩
set_option maxRecDepth 100000 in
theorem stable_nil (p : Option Addr) (c : Nat) (w : World) : Calls Tryd.prog 144 #[.slice p 0 c, .int .i64 0, .func (.func 73) #[] #[]] w fun e w' => e = .returned (.tuple #[]) ∧ w = w' := by
  go_enter Tryd.func144, Tryd.ntmps144
  go_wp2
  go_loopg [7, 8] 0 (fun g va vb wr => va = .int .i64 0 ∧ vb = .int .i64 20 ∧ w = wr)
  case atStart => exact ⟨rfl, rfl, rfl⟩
  case round =>
    obtain ⟨rfl, rfl, rfl⟩ := hrel
    go_wp2_with fail
    refine (insertion_nil p c _).mono ?_
    rintro e w1 ⟨rfl, rfl⟩
    go_wp2
    go_loopg [6] 0 (fun g va wr => va = .int .i64 20 ∧ w = wr)
    case atStart => exact ⟨rfl, rfl⟩
    case round =>
      obtain ⟨rfl, rfl⟩ := hrel
      go_wp2
      go_end0
      exact ⟨rfl, rfl⟩
theorem sort_any (w0 w : World) (u : Value) (l : List RR) (hO : Owns 2 44 encR w w0.heap.size u l) (hb : Below w0.heap.size w0 w) (hok : ∀ x ∈ l, RowOk w0 x) (hl : l.length ≤ 1000000) :
    Calls Tryd.prog 128 #[u, .func (.func 73) #[] #[]] w fun e w' => e = .returned (.tuple #[]) ∧ ∃ l', l'.Perm l ∧ SortedR l' ∧ IsRel w' u l' ∧ Below w0.heap.size w0 w' := by
  rcases hO.2 with ⟨rfl, e⟩ | ⟨g, cap, cur, rfl, _, _, hnc, hcm, _⟩
  · have hn : l = [] := List.eq_nil_of_length_eq_zero e
    subst hn
    go_enter Tryd.func128, Tryd.ntmps128
    go_wp2_with fail
    refine (stable_nil none 0 _).mono ?_
    rintro e w1 ⟨rfl, rfl⟩
    go_wp2
    go_end0
    exact ⟨rfl, [], List.Perm.refl _, List.Pairwise.nil, IsRel.nil _, hb⟩
  · have S := St.of_owns hO hb hok
    have hc : cap ≤ 9223372036854775807 := by unfold maxLen at hcm; omega
    clear hO hb hcm
    go_enter Tryd.func128, Tryd.ntmps128
    go_wp2_with fail
    refine (stable_any w0 g cap l.length hl l.toArray _ S (by simp)).mono ?_
    rintro e w1 ⟨rfl, d', S2, P, T⟩
    have hz : d'.size = l.length := by have := P.1; simpa using this
    have R := Lib.hid (show IsRel w1 (.slice (some ⟨g, 0, none⟩) l.length cap) d'.toList by have := S2.rel (c := cap) (by omega) hc; rwa [hz] at this)
    have PP := Lib.hid (show d'.toList.Perm l by have := perm_of_in (d := l.toArray) (d' := d') (by simpa using P); simpa using this)
    have TT := Lib.hid (sortedR_of (d := d') (by rw [hz]; exact T))
    have BB := S2.below
    clear P T S S2
    go_wp2
    go_end0
    exact ⟨rfl, _, PP.out, TT.out, R.out, BB⟩
end Go.Proofs.YtdibijhaiaiifaaDoor
