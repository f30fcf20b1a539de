/- Parts Tx, Ya, Yb, Yc: words, walks and laws that the claims of this seat share. -/
import Derived.Test.YtdibijhaiaiifaaDoorJ14
import Derived.Lib.SliceRun
/- Slices that the call owns: appends beside them. -/
namespace Go.Proofs.YtdibijhaiaiifaaDoor
open Go.RowKit
theorem Off.wide {α : Type} {ok : World → α → Prop} {w : World} {X : Nat → Prop} {x : α} (hk : ∀ w w' : World, Below w.heap.size w w' → ok w x → ok w' x) (h : Off ok w X x) : Off ok w (fun k => X k ∨ w.heap.size ≤ k) x := fun w2 h2 => by
  have hsz := h2.size
  have hs : (w2.heap.extract 0 w.heap.size).size = w.heap.size := by simp; omega
  have hg : ∀ k, k < w.heap.size → (w2.heap.extract 0 w.heap.size)[k]? = w2.heap[k]? := fun k hk => by rw [Array.getElem?_extract]; simp; omega
  refine hk { w2 with heap := w2.heap.extract 0 w.heap.size } w2 ⟨rfl, rfl, rfl, ?_, fun k hk => ?_⟩ (h _ ⟨h2.os, h2.tape, h2.output, ?_, fun k hk hx => ?_⟩)
  · show (w2.heap.extract 0 w.heap.size).size ≤ w2.heap.size
    omega
  · have hk' : k < w.heap.size := by rw [← hs]; exact hk
    exact (hg k hk').symm
  · show w.heap.size ≤ (w2.heap.extract 0 w.heap.size).size
    omega
  · show (w2.heap.extract 0 w.heap.size)[k]? = w.heap[k]?
    rw [hg k hk]
    exact h2.block k hk fun q => by rcases q with q | q; exact hx q; omega
theorem Off.next {α : Type} {ok : World → α → Prop} {w w' : World} {X Y : Nat → Prop} {x : α} (hk : ∀ w w' : World, Below w.heap.size w w' → ok w x → ok w' x) (h : Off ok w X x) (hg : Agree X w w') (hY : ∀ k, Y k → X k ∨ w.heap.size ≤ k) : Off ok w' Y x := fun w2 h2 =>
  Off.wide hk h w2 ((hg.mono fun _ q => .inl q).trans (h2.mono hY))
section
variable {α : Type} {k bytes : Nat} {t e : TypeId} {z : Value} {enc : α → List Value} {wr w w' : World} {base : Nat} {v x : Value} {l m : List α}
theorem run_own (ty : TypeId) (hF : Fits t e k bytes z) (hE : Encs k enc) (hO : Owns k e enc wr base v l) (hb : Below wr.heap.size wr w) (hm : IsRows k enc w x m) (hbase : base ≤ wr.heap.size) (hL : l.length ≤ 1000000) (hM : m.length ≤ 1000000) :
    ∃ p c w', (Builtin.append_ #[t, t] ty #[v, x]).run Tryd.prog w = .ok (.slice p (l ++ m).length c) w' ∧ Owns k e enc w' base (.slice p (l ++ m).length c) (l ++ m) ∧ Below base wr w' ∧ w.grownBy w' v.ownBlock ∧ ((Value.slice p (l ++ m).length c).ownBlock = v.ownBlock ∨ (Value.slice p (l ++ m).length c).ownBlock = some w.heap.size) := by
  obtain ⟨i0, hi, hz0, hz1, hz2⟩ := info_parts' hF.info
  have hown : w.ownsRow base e k v l.length (l.flatMap enc) := own_keep hO hb
  have h1 : (l.length + m.length) * bytes ≤ 140737488355328 := Nat.le_trans (Nat.mul_le_mul (show l.length + m.length ≤ 2000000 by omega) hF.small) (by omega)
  obtain ⟨v', w', hr, hown', hg, hmv⟩ := run_append_rows enc t ty base e i0 _ k bytes hF.und hi hz0 hz1 hz2 hF.zs hF.pos v l.length _ hown x m hm (fun y _ => hE.len y) (fun y _ => hE.one y) (by unfold maxLen; omega) h1 (by have := hb.size; omega)
  have h2 : Owns k e enc w' base v' (l ++ m) := by unfold Owns; rw [List.length_append, List.flatMap_append]; exact hown'
  obtain ⟨p, c, rfl⟩ := h2.form
  exact ⟨p, c, w', hr, h2, below_own hO hb hg hbase, hg, hmv⟩
theorem wp_own {o : Oper} {a : Act} {K : Act → World → Prop} {Q : Exit → Act → World → Prop} (hF : Fits t e k bytes z) (hE : Encs k enc) (s y : Operand) (ho : o.op = .call { callee := .builtin .append, args := #[s, y], argTypes := #[t, t] })
    (hs : a.eval s = v) (hy : a.eval y = x) (hO : Owns k e enc wr base v l) (hb : Below wr.heap.size wr w) (hm : IsRows k enc w x m) (hbase : base ≤ wr.heap.size) (hL : l.length ≤ 1000000) (hM : m.length ≤ 1000000)
    (h : ∀ p c w', Owns k e enc w' base (.slice p (l ++ m).length c) (l ++ m) → Below base wr w' → w.grownBy w' v.ownBlock → ((Value.slice p (l ++ m).length c).ownBlock = v.ownBlock ∨ (Value.slice p (l ++ m).length c).ownBlock = some w.heap.size) → K (a.put o.dst (.slice p (l ++ m).length c)) w') : o.wp Tryd.prog a w K Q := by
  obtain ⟨p, c, w', hr, h2, h3, h4, h5⟩ := run_own o.type hF hE hO hb hm hbase hL hM
  unfold Oper.wp execOp
  simp only [ho, resolve, invoke, builtin, Sem.run_bind, Sem.run_pure, Result.andThen_ok, List.map_toArray, List.map_cons, List.map_nil, hs, hy, hr]
  exact h p c w' h2 h3 h4 h5
theorem wpList_own {ops : Array Oper} {rest : List Oper} {o : Oper} {a : Act} {Q : Exit → Act → World → Prop} (hF : Fits t e k bytes z) (hE : Encs k enc) (hgd : o.guard = none) (s y : Operand) (ho : o.op = .call { callee := .builtin .append, args := #[s, y], argTypes := #[t, t] })
    (hs : a.eval s = v) (hy : a.eval y = x) (hO : Owns k e enc wr base v l) (hb : Below wr.heap.size wr w) (hm : IsRows k enc w x m) (hbase : base ≤ wr.heap.size) (hL : l.length ≤ 1000000) (hM : m.length ≤ 1000000)
    (h : ∀ p c w', Owns k e enc w' base (.slice p (l ++ m).length c) (l ++ m) → Below base wr w' → w.grownBy w' v.ownBlock → ((Value.slice p (l ++ m).length c).ownBlock = v.ownBlock ∨ (Value.slice p (l ++ m).length c).ownBlock = some w.heap.size) → wpList Tryd.prog ops Q rest (a.put o.dst (.slice p (l ++ m).length c)) w') : wpList Tryd.prog ops Q (o :: rest) a w :=
  wpList_plain hgd fun _ hK => wp_own hF hE s y ho hs hy hO hb hm hbase hL hM fun p c w' h1 h2 h3 h4 => hK _ _ (h p c w' h1 h2 h3 h4)
theorem step_own {ops : Array Oper} {o : Oper} {a : Act} {K : Act → World → Prop} {Q : Exit → Act → World → Prop} {E : Prop} (hF : Fits t e k bytes z) (hE : Encs k enc) (hw : Region.wanted o (yielded ops a.tmps) = true) (s y : Operand) (ho : o.op = .call { callee := .builtin .append, args := #[s, y], argTypes := #[t, t] })
    (hs : a.eval s = v) (hy : a.eval y = x) (hO : Owns k e enc wr base v l) (hb : Below wr.heap.size wr w) (hm : IsRows k enc w x m) (hbase : base ≤ wr.heap.size) (hL : l.length ≤ 1000000) (hM : m.length ≤ 1000000)
    (h : ∀ p c w', Owns k e enc w' base (.slice p (l ++ m).length c) (l ++ m) → Below base wr w' → w.grownBy w' v.ownBlock → ((Value.slice p (l ++ m).length c).ownBlock = v.ownBlock ∨ (Value.slice p (l ++ m).length c).ownBlock = some w.heap.size) → K (a.put o.dst (.slice p (l ++ m).length c)) w') : if Region.wanted o (yielded ops a.tmps) = true then Oper.wp Tryd.prog o a w K Q else E := by
  rw [if_pos hw]
  exact wp_own hF hE s y ho hs hy hO hb hm hbase hL hM h
end
def Both (u v : Value) : Nat → Prop := fun k => u.ownBlock = some k ∨ v.ownBlock = some k
section
variable {α β γ : Type} {ka kb : Nat} {ea eb : TypeId} {enca : α → List Value} {encb : β → List Value} {oka : World → α → Prop} {okb : World → β → Prop} {okc : World → γ → Prop}
/-- Two slices in blocks of their own, and their elements apart from both. -/
structure Twin (ka : Nat) (ea : TypeId) (enca : α → List Value) (oka : World → α → Prop) (kb : Nat) (eb : TypeId) (encb : β → List Value) (okb : World → β → Prop) (w : World) (b1 : Nat) (u : Value) (A : List α) (b2 : Nat) (v : Value) (L : List β) : Prop where
  ou : Owns ka ea enca w b1 u A
  ov : Owns kb eb encb w b2 v L
  dis : ∀ k, u.ownBlock = some k → v.ownBlock ≠ some k
  eu : ∀ x ∈ A, Off oka w (Both u v) x
  ev : ∀ x ∈ L, Off okb w (Both u v) x
variable {w w' wm : World} {b1 b2 : Nat} {u v u' v' : Value} {A m : List α} {L n : List β} {c : γ}
theorem Twin.swap (T : Twin ka ea enca oka kb eb encb okb w b1 u A b2 v L) : Twin kb eb encb okb ka ea enca oka w b2 v L b1 u A :=
  ⟨T.ov, T.ou, fun k h1 h2 => T.dis k h2 h1, fun x hx w' hw => T.ev x hx w' (hw.mono fun _ h => h.symm), fun x hx w' hw => T.eu x hx w' (hw.mono fun _ h => h.symm)⟩
theorem Twin.keep (T : Twin ka ea enca oka kb eb encb okb w b1 u A b2 v L) (hb : Below w.heap.size w w') : Twin ka ea enca oka kb eb encb okb w' b1 u A b2 v L := ⟨T.ou.keep hb, T.ov.keep hb, T.dis, fun x hx => (T.eu x hx).keep hb, fun x hx => (T.ev x hx).keep hb⟩
theorem Twin.start (H : Hold ka ea enca oka noB w b1 u A) : Twin ka ea enca oka kb eb encb okb w b1 u A b2 (.slice none 0 0) [] :=
  ⟨H.1, Owns.nil _ _, fun k _ h => (by cases h), fun x hx w' hw => H.2 x hx w' (hw.mono fun k h => .inl (h.resolve_right fun q => by cases q)), by simp⟩
theorem Twin.hold (T : Twin ka ea enca oka kb eb encb okb w b1 u A b2 v L) : Hold ka ea enca oka noB w b1 u A := ⟨T.ou, fun x hx w' hw => T.eu x hx w' (hw.mono fun _ h => .inl (h.resolve_right fun q => q.elim))⟩
theorem both_grown (hg : wm.grownBy w' u.ownBlock) : Agree (Both u v) wm w' := .of_grown hg fun _ hk => .inl hk
theorem both_next (hu : u'.ownBlock = u.ownBlock ∨ u'.ownBlock = some wm.heap.size) : ∀ k, Both u' v k → Both u v k ∨ wm.heap.size ≤ k := fun k hk => by
  rcases hk with hk | hk
  · rcases hu with h | h
    · exact .inl (.inl (by rw [← h]; exact hk))
    · rw [h] at hk; injection hk with hk; exact .inr (by omega)
  · exact .inl (.inr hk)
/-- The first slice grows. -/
theorem Twin.push (hka : ∀ x, ∀ w w' : World, Below w.heap.size w w' → oka w x → oka w' x) (hkb : ∀ x, ∀ w w' : World, Below w.heap.size w w' → okb w x → okb w' x) (T : Twin ka ea enca oka kb eb encb okb w b1 u A b2 v L) (hb : Below w.heap.size w wm) (hO : Owns ka ea enca w' b1 u' (A ++ m)) (hg : wm.grownBy w' u.ownBlock) (hu : u'.ownBlock = u.ownBlock ∨ u'.ownBlock = some wm.heap.size) (hm : ∀ x ∈ m, Off oka wm (Both u v) x) : Twin ka ea enca oka kb eb encb okb w' b1 u' (A ++ m) b2 v L := by
  have Tm := T.keep hb
  refine ⟨hO, Tm.ov.kept hg ?_, fun k h1 h2 => ?_, fun x hx => ?_, fun x hx => ?_⟩
  · cases h : v.ownBlock with
    | none => exact .inl rfl
    | some g => exact .inr fun e => T.dis g e.symm h
  · rcases hu with h | h
    · exact T.dis k (by rw [← h]; exact h1) h2
    · rw [h] at h1; injection h1 with h1
      have := (Tm.ov.lt k h2).2
      omega
  · have hx2 : Off oka wm (Both u v) x := by
      rcases List.mem_append.1 hx with h | h
      · exact Tm.eu x h
      · exact hm x h
    exact Off.next (hka x) hx2 (both_grown hg) (both_next hu)
  · exact Off.next (hkb x) (Tm.ev x hx) (both_grown hg) (both_next hu)
/-- .. and what lies apart from both goes on so. -/
theorem Twin.off (hk : ∀ w w' : World, Below w.heap.size w w' → okc w c → okc w' c) (h : Off okc wm (Both u v) c) (hg : wm.grownBy w' u.ownBlock) (hu : u'.ownBlock = u.ownBlock ∨ u'.ownBlock = some wm.heap.size) : Off okc w' (Both u' v) c := Off.next hk h (both_grown hg) (both_next hu)
end
end Go.Proofs.YtdibijhaiaiifaaDoor
/- Tries: as they are, and as they lie in memory. -/
namespace Go.Proofs.YtdibijhaiaiifaaDoor
open Go.RowKit
/-- A trie. -/
inductive Tr where
  | mk (vs : List Vl) (ks : List Tr) (s : List Sp)
def Tr.vs : Tr → List Vl | .mk vs _ _ => vs
def Tr.ks : Tr → List Tr | .mk _ ks _ => ks
def Tr.s : Tr → List Sp | .mk _ _ s => s
theorem Tr.eta (t : Tr) : t = .mk t.vs t.ks t.s := by cases t; rfl
/-- A trie and where its slices lie. -/
inductive TR where
  | mk (pv : Option Addr) (cv : Nat) (vs : List Vl) (pk : Option Addr) (ck : Nat) (ks : List TR) (pw : Option Addr) (cw : Nat) (s : List Sp)
namespace TR
def pv : TR → Option Addr | .mk pv _ _ _ _ _ _ _ _ => pv
def cv : TR → Nat | .mk _ cv _ _ _ _ _ _ _ => cv
def vs : TR → List Vl | .mk _ _ vs _ _ _ _ _ _ => vs
def pk : TR → Option Addr | .mk _ _ _ pk _ _ _ _ _ => pk
def ck : TR → Nat | .mk _ _ _ _ ck _ _ _ _ => ck
def ks : TR → List TR | .mk _ _ _ _ _ ks _ _ _ => ks
def pw : TR → Option Addr | .mk _ _ _ _ _ _ pw _ _ => pw
def cw : TR → Nat | .mk _ _ _ _ _ _ _ cw _ => cw
def s : TR → List Sp | .mk _ _ _ _ _ _ _ _ s => s
end TR
abbrev TR.vv (t : TR) : Value := .slice t.pv t.vs.length t.cv
abbrev TR.kv (t : TR) : Value := .slice t.pk t.ks.length t.ck
abbrev TR.wv (t : TR) : Value := .slice t.pw t.s.length t.cw
mutual
def TR.tr : TR → Tr
  | .mk _ _ vs _ _ ks _ _ s => .mk vs (TR.trs ks) s
def TR.trs : List TR → List Tr
  | [] => []
  | k :: r => k.tr :: TR.trs r
end
theorem trs_map : ∀ l : List TR, TR.trs l = l.map TR.tr
  | [] => rfl
  | k :: r => by rw [TR.trs, trs_map r]; rfl
theorem TR.tr_vs (t : TR) : t.tr.vs = t.vs := by cases t; rfl
theorem TR.tr_ks (t : TR) : t.tr.ks = t.ks.map TR.tr := by
  cases t
  show TR.trs _ = _
  rw [trs_map]; rfl
theorem TR.tr_s (t : TR) : t.tr.s = t.s := by cases t; rfl
def encK (t : TR) : List Value := [t.vv, t.kv, t.wv]
def trV (t : TR) : Value := .agg #[t.vv, t.kv, t.wv]
theorem encsK : Encs 3 encK := ⟨fun _ => rfl, fun x u hu => by unfold encK at hu; simp at hu; rcases hu with rfl | rfl | rfl <;> rfl⟩
theorem fitsK : Fits 62 64 3 72 (.agg #[.slice none 0 0, .slice none 0 0, .slice none 0 0]) := ⟨Tryd.underlying62, by kernel_rfl, by kernel_rfl, by decide, by decide⟩
/-- The trie reads as it should, all the way down. -/
inductive TrOk (w : World) : TR → Prop
  | mk (t : TR) : IsVals w t.vv t.vs → IsRows 3 encK w t.kv t.ks → IsSpans w t.wv t.s → (∀ k ∈ t.ks, TrOk w k) → TrOk w t
section
variable {w w' : World} {t : TR}
theorem TrOk.vals (h : TrOk w t) : IsVals w t.vv t.vs := by cases h; assumption
theorem TrOk.kids (h : TrOk w t) : IsRows 3 encK w t.kv t.ks := by cases h; assumption
theorem TrOk.spans (h : TrOk w t) : IsSpans w t.wv t.s := by cases h; assumption
theorem TrOk.sub (h : TrOk w t) : ∀ k ∈ t.ks, TrOk w k := by cases h; assumption
theorem TrOk.keep (h : TrOk w t) (hb : Below w.heap.size w w') : TrOk w' t := by
  induction h with
  | mk t h1 h2 h3 _ ih => exact .mk t (h1.keep hb) (h2.keep (keeps_below hb)) (h3.keep hb) ih
/-- A slice of tries. -/
def IsTries (w : World) (v : Value) (l : List TR) : Prop := IsRows 3 encK w v l ∧ ∀ t ∈ l, TrOk w t
theorem IsTries.keep {v : Value} {l : List TR} (h : IsTries w v l) (hb : Below w.heap.size w w') : IsTries w' v l := ⟨h.1.keep (keeps_below hb), fun t ht => (h.2 t ht).keep hb⟩
theorem IsTries.nil (w : World) : IsTries w (.slice none 0 0) [] := ⟨⟨none, 0, rfl, .inl rfl, by simp, by simp, by simp⟩, by simp⟩
theorem TrOk.tries (h : TrOk w t) : IsTries w t.kv t.ks := ⟨h.kids, h.sub⟩
theorem IsTries.at_ {a : Option Addr} {n c : Nat} {l : List TR} (h : IsTries w (.slice a n c) l) {i : Nat} {x : TR} (hi : l[i]? = some x) :
    ∃ b off, a = some ⟨b, off, none⟩ ∧ w.cell? ⟨b, off + i * 3, none⟩ = some x.vv ∧ w.cell? ⟨b, off + i * 3 + 1, none⟩ = some x.kv ∧ w.cell? ⟨b, off + i * 3 + 2, none⟩ = some x.wv ∧ TrOk w x := by
  obtain ⟨⟨a', c', e, hr, hm⟩, h2⟩ := h
  injection e with e1 e2 e3
  subst e1
  obtain ⟨b, off, ha, hc⟩ := hr.at_ hi
  have hc := hc i x hi
  exact ⟨b, off, ha, hc 0 _ rfl, hc 1 _ rfl, hc 2 _ rfl, h2 x (List.mem_of_getElem? hi)⟩
end
def noTr : TR := .mk none 0 [] none 0 [] none 0 []
theorem noTr_ok (w : World) : TrOk w noTr := .mk _ (IsVals.nil w) ⟨none, 0, rfl, .inl rfl, by simp [noTr, TR.ks], by simp [noTr, TR.ks], by simp⟩ (IsSpans.nil w) (by intro k hk; cases hk)
theorem vals_at' {w : World} {p : Option Addr} {n c : Nat} {l : Tp} (h : IsVals w (.slice p n c) l) {i : Nat} {x : Vl} (hi : l[i]? = some x) : ∃ b off, p = some ⟨b, off, none⟩ ∧ w.cell? ⟨b, off + i * 3, none⟩ = some (.int .i64 x.t) ∧ w.cell? ⟨b, off + i * 3 + 1, none⟩ = some (.int .i64 x.n) ∧ w.cell? ⟨b, off + i * 3 + 2, none⟩ = some (strV x.s) := by
  obtain ⟨a, c', e, hr, -⟩ := h
  injection e with e1 e2 e3
  subst e1
  exact vals_at hr hi
end Go.Proofs.YtdibijhaiaiifaaDoor
/- Union whose result the caller owns. -/
namespace Go.Proofs.YtdibijhaiaiifaaDoor
open Go.RowKit Go.Shelf
attribute [local go_sem] Oper.semAt_some
theorem Owns.mono {α : Type} {k : Nat} {e : TypeId} {enc : α → List Value} {w : World} {base b : Nat} {v : Value} {l : List α} (h : Owns k e enc w base v l) (hb : b ≤ base) : Owns k e enc w b v l := by
  refine ⟨h.1, ?_⟩
  rcases h.2 with h | ⟨g, cap, cur, e1, h1, h2⟩
  · exact .inl h
  · exact .inr ⟨g, cap, cur, e1, Nat.le_trans hb h1, h2⟩
theorem Hold.mono {α : Type} {k : Nat} {e : TypeId} {enc : α → List Value} {ok : World → α → Prop} {ex : Nat → Prop} {w : World} {base b : Nat} {v : Value} {l : List α} (h : Hold k e enc ok ex w base v l) (hb : b ≤ base) : Hold k e enc ok ex w b v l := ⟨h.1.mono hb, h.2⟩
set_option maxHeartbeats 4000000 in
set_option maxRecDepth 100000 in
theorem combineH_in (f : FuncId) (op : Bool → Bool → Bool) (h0 : op false false = false) (hf : Moms f op) (va vb : Value) (xs ys : List RR) (w : World) (hT : Tab w) (ha : IsRel w va xs) (hb : IsRel w vb ys) (sa : Sml 10000 xs) (sb : Sml 10000 ys) :
    CallsIn Fence.wide 4 Tryd.prog 83 #[va, vb, .func (.func f) #[] #[]] w fun e w' => ∃ u, e = .returned u ∧ ∃ zs, Hold 2 44 encR RowOk (fun k => k < w.heap.size) w' w.heap.size u zs ∧ OpOf op xs ys zs ∧ Below w.heap.size w w' := by
  have SA := Lib.hid sa
  have SB := Lib.hid sb
  clear sa sb
  refine callsIn_of_wp_marks Tryd.func83 rfl trivial ?_ rfl
  simp only [Tryd.ntmps83, List.size_toArray, List.length_cons, List.length_nil, Nat.reduceAdd, Nat.reduceSub, Array.replicate_succ, Array.replicate_zero, List.push_toArray, List.append_toArray, List.nil_append, List.cons_append]
  gi_upto_region 2 with fail
  have B1 : Below w.heap.size w ((w.alloc (.cells #[.func (.func f) #[] #[]] 54)).alloc (.cells #[.slice none 0 0] 24)) := below_alloc' (below_new _ _)
  have F5 : Cel ((w.alloc (.cells #[.func (.func f) #[] #[]] 54)).alloc (.cells #[.slice none 0 0] 24)) w.heap.size 54 [.func (.func f) #[] #[]] := (Cel.new w 54 [.func (.func f) #[] #[]]).keep (below_new _ _)
  have F7 : Cel ((w.alloc (.cells #[.func (.func f) #[] #[]] 54)).alloc (.cells #[.slice none 0 0] 24)) (w.heap.size + 1) 24 [.slice none 0 0] := by
    have := Cel.new (w.alloc (.cells #[.func (.func f) #[] #[]] 54)) 24 [.slice none 0 0]
    rwa [World.size_alloc] at this
  have hs1 : ((w.alloc (.cells #[.func (.func f) #[] #[]] 54)).alloc (.cells #[.slice none 0 0] 24)).heap.size = w.heap.size + 2 := by simp
  obtain ⟨w1, hw1⟩ : ∃ z, (w.alloc (.cells #[.func (.func f) #[] #[]] 54)).alloc (.cells #[.slice none 0 0] 24) = z := ⟨_, rfl⟩
  rw [hw1] at B1 F5 F7 hs1
  rw [hw1]
  clear hw1
  obtain ⟨b5, h5⟩ : ∃ b5, w.heap.size = b5 := ⟨_, rfl⟩
  obtain ⟨b7, h7⟩ : ∃ b7, w.heap.size + 1 = b7 := ⟨_, rfl⟩
  rw [h7] at F7
  rw [h7]
  rw [h5] at F5
  have hT1 := hT.keep B1
  have ha1 := ha.keep B1
  have hb1 := hb.keep B1
  gi_wp2_with fail
  refine ⟨trivial, ?_⟩
  (with_reducible refine (callsIn_wide.2 (canonical_any va xs _ hT1 ha1 SA.out)).mono ?_)
  rintro e w2 ⟨ua, rfl, al, Ra, Ca, B2⟩
  gi_wp2_with fail
  refine ⟨trivial, ?_⟩
  (with_reducible refine (callsIn_wide.2 (canonical_any vb ys _ (hT1.keep B2) (hb1.keep B2) SB.out)).mono ?_)
  rintro e w3 ⟨ub, rfl, bl, Rb, Cb, B3⟩
  replace Ra := Ra.keep B3
  replace Rb := Rb.mono B2.size
  have B13 := below_trans B2 B3
  obtain ⟨pa, ca, rfl, hma⟩ := Ra.rel.shape
  obtain ⟨pb, cb, rfl, hmb⟩ := Rb.rel.shape
  have HCA := Lib.hid Ca
  have HCB := Lib.hid Cb
  have hal : al.length ≤ 10000 := (Ca.sml _ SA.out).len
  have hbl : bl.length ≤ 10000 := (Cb.sml _ SB.out).len
  clear Ca Cb ha1 hb1 ha hb B2 B3
  gi_wp2_with fail
  refine ⟨trivial, ?_⟩
  (with_reducible refine (callsIn_wide.2 (pairs_any _ _ _ _ _ _ _)).mono ?_)
  rintro e w4 ⟨rfl, hw4⟩
  have G1 : Cel w4 w3.heap.size 24 [.slice pa al.length ca] := by rw [hw4]; exact (Cel.new w3 24 [.slice pa al.length ca]).keep (below_new _ _)
  have G2 : Cel w4 (w3.heap.size + 1) 24 [.slice pb bl.length cb] := by
    have := Cel.new (w3.alloc (.cells #[.slice pa al.length ca] 24)) 24 [.slice pb bl.length cb]
    rw [World.size_alloc] at this
    rw [hw4]; exact this
  have B4 : Below w3.heap.size w3 w4 := by rw [hw4]; exact below_alloc' (below_new _ _)
  have hs4 : w4.heap.size = w3.heap.size + 2 := by rw [hw4]; simp
  clear hw4
  replace F5 := F5.keep (below_trans B13 B4)
  replace F7 := F7.keep (below_trans B13 B4)
  have hs13 := B13.size
  have hRR : ∀ B, Agree (fun k => k = b7 ∨ k = w3.heap.size ∨ k = w3.heap.size + 1 ∨ w4.heap.size ≤ k) w4 B → Agree (fun k => k < w1.heap.size) w3 B := fun B hB =>
    ⟨hB.os.trans B4.os, hB.tape.trans B4.tape, hB.output.trans B4.output, Nat.le_trans B4.size hB.size, fun k hk hx => (hB.block k (by omega) (by omega)).trans (B4.block k hk)⟩
  gi_wp2_with fail
  have hseq : SeqBox Fence.wide 3 Tryd.prog 143 #[.pointer (some ⟨w3.heap.size, 0, none⟩), .pointer (some ⟨w3.heap.size + 1, 0, none⟩)] encPr (fun p => p ∈ pairsL al bl) (fun k => k = w3.heap.size ∨ k = w3.heap.size + 1) (Agree (fun k => k = b7 ∨ w4.heap.size ≤ k)) (fun l => l = pairsL al bl) (pairsL al bl).length w4 :=
    fun l J W hW hJ hY hj => pairs_in l w3.heap.size (w3.heap.size + 1) b7 w4.heap.size al bl _ _ J hJ (fun pre x A hx hp hl => hY pre x A hx hp hl) W (by omega) (by omega) (by omega) (by omega) (by omega) (G1.keep hW) (G2.keep hW)
      (fun B hB => by have h := hRR B ((Agree.of_below hW).trans hB); exact ⟨Ra B h, Rb B h⟩) (by omega) (by omega) hj
  have i1 := Nat.le_of_eq hs1
  have i2 := Nat.le_of_eq hs1.symm
  have i3 := Nat.le_of_eq hs4
  have i4 := Nat.le_of_eq hs4.symm
  have i5 := Nat.le_of_eq h5
  have i6 := Nat.le_of_eq h5.symm
  have i7 := Nat.le_of_eq h7
  have i8 := Nat.le_of_eq h7.symm
  have hexb : ∀ k, (k < w1.heap.size ∨ k = w3.heap.size ∨ k = w3.heap.size + 1 ∨ k = w4.heap.size ∨ k = w4.heap.size + 1) → k < w4.heap.size + 2 := fun k hk => by omega
  have hb7 : b7 < w1.heap.size := by omega
  clear hs1 hs4 h5 h7
  refine range_box (α := RR × RR) rfl (by decide) (gf := 143) (lb := #[.pointer (some ⟨w3.heap.size, 0, none⟩), .pointer (some ⟨w3.heap.size + 1, 0, none⟩)]) rfl trivial (enters_of Tryd.func143 (by kernel_rfl) rfl) hseq (fun k hk => by omega) Agree.trans (fun W l o o' hl _ _ _ => Agree.putObj W (.inr hl) o') (Below.refl _ _) (fun _ => rfl)
    (CmbI op w1.heap.size w3.heap.size w4.heap.size b7 w4)
    (fun s A B hs hg => by
      obtain ⟨⟨v, out, h1, h2, h3⟩, h4⟩ := hs
      exact ⟨⟨v, out, h1.agree hg (by omega), h2.agree (hg.mono fun k hk => by omega) hexb, h3⟩, h4.trans (hg.mono fun k hk => by omega)⟩)
    ⟨⟨_, [], F7, Hold.nil _ _, Lib.hid rfl⟩, Agree.refl _ _⟩
    (fun x a' W => ∃ bx bz, w4.heap.size + 2 ≤ bx ∧ w4.heap.size + 2 ≤ bz ∧ Cel W bx 44 [x.1.av, x.1.wv] ∧ Cel W bz 44 [x.2.av, x.2.wv] ∧ a' = { tmps := #[va, vb, .func (.func f) #[] #[], undef, undef, .pointer (some ⟨b5, 0, none⟩), .slice none 0 0, .pointer (some ⟨b7, 0, none⟩), .pointer (some ⟨bx, 0, none⟩), .pointer (some ⟨bz, 0, none⟩), undef, va, .slice pa al.length ca, vb, .slice pb bl.length cb, .func (.func 143) #[] #[.pointer (some ⟨w3.heap.size, 0, none⟩), .pointer (some ⟨w3.heap.size + 1, 0, none⟩)], .agg #[x.1.av, x.1.wv], .agg #[x.2.av, x.2.wv], undef, undef, undef, undef, undef, undef, undef, undef, undef, undef, undef, undef, undef, undef, undef, undef, undef], defers := [] })
    (fun x a' A B hs hg => by obtain ⟨bx, bz, h1, h2, h3, h4, h5⟩ := hs; exact ⟨bx, bz, h1, h2, h3.agree hg (by omega), h4.agree hg (by omega), h5⟩) ?assign ?body ?done
  case assign =>
    rintro l pre x W K hx hsz ⟨⟨v, out, h1, h2, h3⟩, h4⟩ hK
    unfold encPr rowV
    have B9 : Below W.heap.size W ((W.alloc (.cells #[x.1.av, x.1.wv] 44)).alloc (.cells #[x.2.av, x.2.wv] 44)) := below_alloc' (below_new _ _)
    have X9 : Cel ((W.alloc (.cells #[x.1.av, x.1.wv] 44)).alloc (.cells #[x.2.av, x.2.wv] 44)) W.heap.size 44 [x.1.av, x.1.wv] := (Cel.new W 44 [x.1.av, x.1.wv]).keep (below_new _ _)
    have Y9 : Cel ((W.alloc (.cells #[x.1.av, x.1.wv] 44)).alloc (.cells #[x.2.av, x.2.wv] 44)) (W.heap.size + 1) 44 [x.2.av, x.2.wv] := by
      have := Cel.new (W.alloc (.cells #[x.1.av, x.1.wv] 44)) 44 [x.2.av, x.2.wv]
      rwa [World.size_alloc] at this
    gi_wp2
    exact hK _ _ (KeepsFrom.of_grownBy (row := none) (grown_of B9) (fun _ e => by cases e)) (.of_below B9) ⟨⟨v, out, h1.keep B9, h2.keep B9, h3⟩, h4.trans (.of_below B9)⟩ ⟨W.heap.size, W.heap.size + 1, hsz, by omega, X9, Y9, rfl⟩
  case body =>
    rintro l pre x a' W hl hx ⟨⟨v, out, h1, h2, h3⟩, h4⟩ ⟨bx, bz, hbx, hbz, X9, Y9, rfl⟩ hlt
    obtain ⟨p4, c4, rfl⟩ := h2.form
    have hWs : w4.heap.size + 2 ≤ W.heap.size := by have := X9.lt; omega
    have F5W := F5.agree h4 (by omega)
    have HRW := hRR W h4
    have POK := pair_ok (Ra W HRW) (Rb W HRW) hx
    have BW : Below w.heap.size w W := (below_trans (below_trans B1 (B13.mono (Nat.le_refl _))) (B4.mono (Nat.le_refl _))).trans (h4.below (by omega) (fun k hk => by omega))
    have hTW := hT.keep BW
    have q5 := F5W.at_ (j := 0) rfl
    have qx := X9.at_ (j := 1) rfl
    have qz := Y9.at_ (j := 1) rfl
    have hps := pairs_len _ al bl (Nat.le_refl _)
    gi_wp2_with fail
    rw [hf.enter, Oper.uponIn_enter]
    refine ⟨trivial, fun _ => by omega, ?_⟩
    (with_reducible refine (CallsIn.inRound l (callsIn_wide.2 (hf.call _ _ x.1.s x.2.s _ hTW POK.1.spans POK.2.spans))).mono ?_)
    rintro e W5 ⟨u5, rfl, ⟨h5, f5⟩, B5⟩
    obtain ⟨S, hS⟩ : ∃ S, Hid ((canon fun k => op (setOf x.1.s k) (setOf x.2.s k)) = S) := ⟨_, Lib.hid rfl⟩
    rw [hS.out] at h5
    obtain ⟨p5, c5, rfl, h5⟩ := h5
    have hSl : S.length ≤ 32 := by rw [← hS.out]; exact canon_le _
    have H15 := h1.keep B5
    have A45 : Agree (fun k => k = b7 ∨ k = w3.heap.size ∨ k = w3.heap.size + 1 ∨ w4.heap.size ≤ k) w4 W5 := h4.trans (.of_below B5)
    have q7 := H15.at_ (j := 0) rfl
    have qt := (X9.keep B5).at_ (j := 0) rfl
    by_cases hS0 : S.length = 0
    · have hSz : ¬ (0 : Int) < (S.length : Int) := by omega
      have CN : Hid (rows out = combL op (pre ++ [x])) := Lib.hid (by rw [combL_append, h3.out]; unfold comb1; rw [hS.out, if_pos (List.eq_nil_of_length_eq_zero hS0), List.append_nil])
      gi_wp2
      exact ⟨KeepsFrom.of_grownBy (row := none) (grown_of B5) (fun _ e => by cases e), .of_below B5, ⟨_, out, H15, h2.keep B5, CN⟩, A45⟩
    · have hSz : (0 : Int) < (S.length : Int) := by omega
      have CN : Hid (rows (out ++ [⟨x.1.pa, x.1.ca, x.1.t, p5, c5, S⟩]) = combL op (pre ++ [x])) := Lib.hid (by
        rw [combL_append, rows_append, h3.out]; unfold comb1; rw [hS.out, if_neg (fun e => hS0 (by rw [e]; rfl))]; rfl)
      have hq : Off RowOk (W5.alloc (.cells #[x.1.av, .slice p5 S.length c5] 44)) (Ex (.slice p4 out.length c4) (fun k => k < w1.heap.size ∨ k = w3.heap.size ∨ k = w3.heap.size + 1 ∨ k = w4.heap.size ∨ k = w4.heap.size + 1)) ⟨x.1.pa, x.1.ca, x.1.t, p5, c5, S⟩ := fun B hB => by
        have A46 := A45.alloc (.cells #[x.1.av, .slice p5 S.length c5] 44)
        have h3B : Agree (fun k => k < w1.heap.size) w3 B := ⟨hB.os.trans (A46.os.trans B4.os), hB.tape.trans (A46.tape.trans B4.tape), hB.output.trans (A46.output.trans B4.output), Nat.le_trans B4.size (Nat.le_trans A46.size hB.size), fun k hk hn =>
          (hB.block k (by have := A46.size; omega) (fun e => by
            rcases e with e | e
            · have := (h2.1.lt k e).1; omega
            · omega)).trans ((A46.block k (by omega) (by omega)).trans (B4.block k hk))⟩
        refine ⟨(pair_ok (Ra B h3B) (Rb B h3B) hx).1.vals, ?_⟩
        refine IsSpans.agree (w := W5.alloc (.cells #[x.1.av, .slice p5 S.length c5] 44)) (IsSpans.keep ⟨p5, c5, rfl, h5⟩ (below_new _ _)) hB fun b hb e => ?_
        have := f5 b hb
        rcases e with e | e
        · have := (h2.1.lt b e).2; omega
        · omega
      have hm : IsRows 2 encR (W5.alloc (.cells #[x.1.av, .slice p5 S.length c5] 44)) (.slice (some ⟨W5.heap.size, 0, none⟩) 1 1) [⟨x.1.pa, x.1.ca, x.1.t, p5, c5, S⟩] := IsRows.lit W5 [_] encsR (by simp)
      have B56 : Below W.heap.size W (W5.alloc (.cells #[x.1.av, .slice p5 S.length c5] 44)) := below_trans B5 (below_new _ _)
      have H16 := H15.keep (below_new W5 (.cells #[x.1.av, .slice p5 S.length c5] 44))
      have hol : out.length ≤ 1000000 := by
        have e1 : out.length = (combL op pre).length := by rw [← h3.out, rows_length]
        have e2 : (combL op pre).length ≤ pre.length := comb_len pre
        omega
      gi_wp2_with (gi_at_builtin; refine wpListIn_hold fitsR24 encsR rfl _ _ rfl rfl rfl h2 B56 hm (fun u hu => by rw [List.mem_singleton.1 hu]; exact hq) hWs hol (by simp) ?_; intro p9 c9 W7 H9 B9 hG9; rw [show (out ++ [(⟨x.1.pa, x.1.ca, x.1.t, p5, c5, S⟩ : RR)]).length = out.length + 1 by simp] at H9; have H17 := Cel.agree (X := Ex (.slice p4 out.length c4) noB) H16 (.of_grown hG9 fun k hk => .inl hk) (fun e => by rcases e with e | e; (have := (h2.1.lt _ e).1; omega); exact e); have q17 := H17.at_ (j := 0) rfl; have f17 := H17.free 0)
      have AG : Agree (fun k => k = b7 ∨ Value.ownBlock (.slice p4 out.length c4) = some k) W (W7.setCell ⟨b7, 0, none⟩ (.slice p9 (out.length + 1) c9)) :=
        ((Agree.of_below B56).trans (.of_grown hG9 fun k hk => .inr hk)).setCell (.inl (.inl rfl)) _
      refine ⟨keeps_of AG fun k hk o ho => ?_, AG.mono fun k hk => ?_, ⟨_, _, H17.set 0 _, ?_, CN⟩, ?_⟩
      · rcases hk with rfl | hk
        · rw [h1] at ho; cases ho; rfl
        · exact h2.1.cells hk o ho
      · rcases hk with hk | hk
        · exact .inl hk
        · exact .inr (by have := (h2.1.lt k hk).1; omega)
      · exact H9.agree ((Agree.refl _ _).setCell (.inl (.inl hb7)) _) hexb
      · exact h4.trans (AG.mono fun k hk => by
          rcases hk with hk | hk
          · exact .inl hk
          · have := (h2.1.lt k hk).1; omega)
  case done =>
    rintro zs W hS ⟨⟨v, out, h1, h2, h3⟩, h4⟩ hK
    obtain ⟨p4, c4, rfl⟩ := h2.form
    have q7 := h1.at_ (j := 0) rfl
    have hps := pairs_len _ al bl (Nat.le_refl _)
    have hol : out.length ≤ 1000000 := by
      have e1 : out.length = (combL op zs).length := by rw [← h3.out, rows_length]
      have e2 : (combL op zs).length ≤ zs.length := comb_len zs
      rw [hS] at e1 e2
      omega
    rw [hS] at h3
    have RES := Lib.hid (opOf_comb h0 HCA.out HCB.out h3.out)
    clear hS
    gi_wp2
    refine ⟨by simp, .inl ⟨_, _, rfl, run_takeDeferred hK, ?_⟩⟩
    refine ⟨_, results_tmp rfl _ _ _, _, rfl, out, ?_, RES.out, ?_⟩
    · exact ((h2.agree (Agree.putObj (l := w4.heap.size) W (.inr (.inr (.inr (.inl rfl)))) _) hexb).less fun k hk => .inl (by omega)).mono (by omega)
    · have BW : Below w.heap.size w W := (below_trans (below_trans B1 B13) B4).trans (h4.below (by omega) (fun k hk => by omega))
      exact BW.trans ((Agree.putObj (X := fun k => k = w4.heap.size) (l := w4.heap.size) W rfl _).below (by have := BW.size; omega) fun k hk => by omega)
theorem combineH_any (f : FuncId) (op : Bool → Bool → Bool) (h0 : op false false = false) (hf : Moms f op) (va vb : Value) (xs ys : List RR) (w : World) (hT : Tab w) (ha : IsRel w va xs) (hb : IsRel w vb ys) (sa : Sml 10000 xs) (sb : Sml 10000 ys) :
    Calls Tryd.prog 83 #[va, vb, .func (.func f) #[] #[]] w fun e w' => ∃ u, e = .returned u ∧ ∃ zs, Hold 2 44 encR RowOk (fun k => k < w.heap.size) w' w.heap.size u zs ∧ OpOf op xs ys zs ∧ Below w.heap.size w w' := callsIn_wide.1 (combineH_in f op h0 hf va vb xs ys w hT ha hb sa sb)
theorem UnionH_any (va vb : Value) (xs ys : List RR) (w : World) (hT : Tab w) (ha : IsRel w va xs) (hb : IsRel w vb ys) (sa : Sml 10000 xs) (sb : Sml 10000 ys) : Calls Tryd.prog 29 #[va, vb] w fun e w' => ∃ u, e = .returned u ∧ ∃ zs, Hold 2 44 encR RowOk (fun k => k < w.heap.size) w' w.heap.size u zs ∧ OpOf opU xs ys zs ∧ Below w.heap.size w w' := by
  go_enter Tryd.func29, Tryd.ntmps29
  go_wp2_with fail
  refine (combineH_any 49 opU rfl momsU va vb xs ys _ hT ha hb sa sb).mono ?_
  rintro e w1 ⟨u, rfl, zs, h1, h2, h3⟩
  go_wp2
  go_ret
  exact ⟨u, rfl, zs, h1, h2, h3⟩
end Go.Proofs.YtdibijhaiaiifaaDoor
/- Rows of one's own, stored into and cleared; the closure of Build, IndexFunc. -/
namespace Go.Proofs.YtdibijhaiaiifaaDoor
open Go.RowKit
theorem flat_set : ∀ (d : List RR) (i : Nat) (x : RR), ((d.flatMap encR).set (i * 2) x.av).set (i * 2 + 1) x.wv = (d.set i x).flatMap encR ∨ d.length ≤ i
  | [], i, x => .inr (by simp)
  | y :: d, 0, x => .inl (by simp [encR])
  | y :: d, i + 1, x => by
    rcases flat_set d i x with h | h
    · left
      rw [List.set_cons_succ, List.flatMap_cons, List.flatMap_cons, ← h]
      show ((([y.av, y.wv] : List Value) ++ d.flatMap encR).set _ _).set _ _ = [y.av, y.wv] ++ _
      rw [show (i + 1) * 2 = i * 2 + 1 + 1 by omega]
      rfl
    · right; simp; omega
/-- What is known of a slice of rows of one's own. -/
theorem Owns.open2 {w : World} {base n c : Nat} {p : Option Addr} {d : List RR} (h : Owns 2 44 encR w base (.slice p n c) d) (hn : 0 < d.length) :
    ∃ G cur, p = some ⟨G, 0, none⟩ ∧ n = d.length ∧ base ≤ G ∧ w.heap[G]? = some (.cells cur 44 (0, 0)) ∧ d.length ≤ c ∧ c ≤ maxLen ∧ cur.size = c * 2 ∧ cur.toList.take (d.length * 2) = d.flatMap encR := by
  rcases h.2 with ⟨e, h0⟩ | ⟨G, cap, cur, e, h1, h2, h3, h4, h5, h6⟩
  · omega
  · injection e with e1 e2 e3
    subst e1 e3
    exact ⟨G, cur, rfl, e2, h1, h2, h3, h4, h5, h6⟩
theorem take_get {cur : Array Value} {d : List RR} (h : cur.toList.take (d.length * 2) = d.flatMap encR) {i : Nat} {x : RR} (hx : d[i]? = some x) : cur[i * 2]? = some x.av ∧ cur[i * 2 + 1]? = some x.wv := by
  have hi := (List.getElem?_eq_some_iff.1 hx).1
  have key : ∀ j u, (encR x)[j]? = some u → j < 2 → cur[i * 2 + j]? = some u := fun j u hj hj2 => by
    have := flats_get d (fun x _ => encsR.len x) i x hx j u hj
    rw [← h, List.getElem?_take_of_lt (by omega)] at this
    rw [← Array.getElem?_toList]; exact this
  exact ⟨key 0 _ rfl (by omega), key 1 _ rfl (by omega)⟩
/-- A row is stored. -/
theorem Owns.put {w : World} {base G n c : Nat} {d : List RR} {x : RR} {i : Nat} (h : Owns 2 44 encR w base (.slice (some ⟨G, 0, none⟩) n c) d) (hi : i < d.length) :
    Owns 2 44 encR ((w.setCell ⟨G, i * 2, none⟩ x.av).setCell ⟨G, i * 2 + 1, none⟩ x.wv) base (.slice (some ⟨G, 0, none⟩) n c) (d.set i x) := by
  obtain ⟨G', cur, e, hn, h1, h2, h3, h4, h5, h6⟩ := h.open2 (by omega)
  injection e with e
  injection e with e
  subst e
  subst hn
  have a1 := heap_setCell_same w G (i * 2) cur 44 x.av h2
  have a2 := heap_setCell_same _ G (i * 2 + 1) _ 44 x.wv a1
  refine ⟨?_, .inr ⟨G, c, _, by rw [List.length_set], h1, a2, by rw [List.length_set]; exact h3, h4, by simpa using h5, ?_⟩⟩
  · exact flat_len _ fun x _ => encsR.len x
  · rw [List.length_set, Array.toList_setIfInBounds, Array.toList_setIfInBounds, List.take_set, List.take_set, h6]
    rcases flat_set d i x with h | h
    · exact h
    · omega
theorem Agree.set {X : Nat → Prop} {A B : World} {p : Addr} {v : Value} (h : Agree X A B) (hp : X p.block) : Agree X A (B.setCell p v) := h.trans ((Agree.refl X B).setCell (.inl hp) v)
theorem Hold.put {ex : Nat → Prop} {w : World} {base G n c : Nat} {d : List RR} {x : RR} {i : Nat} (H : Hold 2 44 encR RowOk ex w base (.slice (some ⟨G, 0, none⟩) n c) d) (hi : i < d.length) (hx : x ∈ d) :
    Hold 2 44 encR RowOk ex ((w.setCell ⟨G, i * 2, none⟩ x.av).setCell ⟨G, i * 2 + 1, none⟩ x.wv) base (.slice (some ⟨G, 0, none⟩) n c) (d.set i x) :=
  ⟨H.1.put hi, fun y hy => by
    have hy' : y ∈ d := by
      rcases List.mem_or_eq_of_mem_set hy with h | h
      · exact h
      · rw [h]; exact hx
    exact (H.2 y hy').agree (((Agree.refl _ _).set (.inl rfl)).set (.inl rfl))⟩
theorem setCells_off {X : Nat → Prop} {G : Nat} (hG : X G) : ∀ (vs : List Value) (o : Nat) (A B : World), Agree X A B → Agree X A (B.setCells G o vs)
  | [], _, _, _, h => h
  | _ :: r, o, A, _, h => setCells_off hG r (o + 1) A _ (h.set (p := ⟨G, o, none⟩) hG)
theorem setCells_low {G j : Nat} (vs : List Value) (o : Nat) (w : World) (h : j < o) : (w.setCells G o vs).cell? ⟨G, j, none⟩ = w.cell? ⟨G, j, none⟩ := World.cell?_setCells_out G vs o w _ fun _ _ => .inl h
/-- 'clear' of rows: nothing before them turns. -/
theorem run_clear_rows (w : World) (ty : TypeId) (G o n c : Nat) (hn : 0 < n) (hc : ∀ j, j < n * 2 → (w.cell? ⟨G, o + j, none⟩).isSome = true) (hf : ∀ j, j < n * 2 → w.frozen? ⟨G, o + j, none⟩ = false) :
    (Builtin.clear_ #[24] ty #[.slice (some ⟨G, o, none⟩) n c]).run Tryd.prog w = .ok (.tuple #[]) (w.setCells G o (List.replicate (n * 2) (.slice none 0 0))) := by
  have hzc : (Builtin.zeroCells (Value.agg #[.slice none 0 0, .slice none 0 0]).cells n).toList = List.replicate (n * 2) (.slice none 0 0) := by
    simp [Builtin.zeroCells, Value.cells]
    apply List.ext_getElem
    · simp
    · intro i h1 h2
      simp
      have : i % 2 = 0 ∨ i % 2 = 1 := by omega
      rcases this with h | h <;> simp [h]
  have hst := run_storeCells_cells (P := Tryd.prog) G o (List.replicate (n * 2) (.slice none 0 0)) 0 w (by simpa using hc) (by simpa using hf) (by intro v hv'; rw [List.eq_of_mem_replicate hv']; rfl)
  simp only [Nat.add_zero] at hst
  obtain ⟨m, rfl⟩ : ∃ m, n = m + 1 := ⟨n - 1, by omega⟩
  simp [Builtin.clear_, run_underlying Tryd.underlying24, hzc, hst]
set_option maxHeartbeats 4000000 in
set_option maxRecDepth 1000000 in
theorem build1_any (x : RR) (b : Nat) (n : Int) (w : World) (hb : w.cell? ⟨b, 0, none⟩ = some (.int .i64 n)) :
    Calls Tryd.prog 105 #[rowV x, .pointer (some ⟨b, 0, none⟩)] w fun e w' => e = .returned (.bool ((x.t.length : Int) != n)) ∧ Below w.heap.size w w' := by
  unfold rowV
  have BA := below_new w (.cells #[x.av, x.wv] 44)
  have X := Cel.new w 44 [x.av, x.wv]
  go_enter Tryd.func105, Tryd.ntmps105
  go_upto_region 1 with fail
  obtain ⟨wA, hwA⟩ : ∃ z, w.alloc (.cells #[x.av, x.wv] 44) = z := ⟨_, rfl⟩
  have X' : Cel wA w.heap.size 44 [x.av, x.wv] := by rw [← hwA]; exact X
  rw [hwA] at BA
  rw [hwA]
  clear hwA X
  have q0 := X'.at_ (j := 0) rfl
  replace hb := cell_keep BA hb
  go_wp2
  go_ret
  exact ⟨rfl, BA⟩
end Go.Proofs.YtdibijhaiaiifaaDoor
