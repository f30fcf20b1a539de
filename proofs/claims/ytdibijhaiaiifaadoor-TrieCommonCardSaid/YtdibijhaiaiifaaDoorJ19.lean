/- Parts Yo: words, walks and laws that the claims of this seat share. -/
import Derived.Test.YtdibijhaiaiifaaDoorJ18
/- The walk of walk and of Rows. -/
namespace Go.Proofs.YtdibijhaiaiifaaDoor
open Go.RowKit
/-- The rows of a trie below a beginning. -/
def walkL : Nat → Tp → Tr → List Rw
  | 0, p, t => [(p, t.s)]
  | n + 1, p, t => (t.vs.zip t.ks).flatMap fun q => walkL n (p ++ [q.1]) q.2
theorem Agree.step {X Y : Nat → Prop} {A B C : World} (h : Agree X A B) (k : Agree Y B C) (hY : ∀ i, Y i → X i ∨ A.heap.size ≤ i) : Agree X A C :=
  ⟨k.os.trans h.os, k.tape.trans h.tape, k.output.trans h.output, Nat.le_trans h.size k.size, fun i hi hx => (k.block i (Nat.lt_of_lt_of_le hi h.size) fun q => by
    rcases hY i q with q | q
    · exact hx q
    · omega).trans (h.block i hi hx)⟩
section
variable {α : Type} {ok : World → α → Prop} {k bytes : Nat} {t e : TypeId} {z : Value} {enc : α → List Value} {wr w w' : World} {base : Nat} {v x : Value} {l m : List α} {ex : Nat → Prop}
theorem run_holdU {w : World} (ty : TypeId) (hF : Fits t e k bytes z) (hE : Encs k enc) (hO : Hold k e enc ok ex wr base v l) (hb : Below wr.heap.size wr w) (hm : IsRows k enc w x m) (hmo : ∀ u ∈ m, Off ok w (Ex v ex) u) (hbase : base ≤ wr.heap.size) (hL : l.length ≤ 1000000) (hM : m.length ≤ 1000000) :
    ∃ p c w', (Builtin.append_ #[t, t] ty #[v, x]).run Tryd.prog w = .ok (.slice p (l ++ m).length c) w' ∧ Hold k e enc ok ex w' base (.slice p (l ++ m).length c) (l ++ m) ∧ Below base wr w' ∧ w.grownBy w' v.ownBlock ∧ ((Value.slice p (l ++ m).length c).ownBlock = v.ownBlock ∨ (Value.slice p (l ++ m).length c).ownBlock = some w.heap.size) := by
  obtain ⟨p, c, w', hr, h2, h3, h4⟩ := run_hold ty hF hE hO hb hm hmo hbase hL hM
  obtain ⟨p', c', w'', hr', -, -, -, h5⟩ := run_own ty hF hE hO.1 hb hm hbase hL hM
  rw [hr] at hr'
  injection hr' with e1 e2
  rw [← e1] at h5
  exact ⟨p, c, w', hr, h2, h3, h4, h5⟩
theorem wpList_holdU {w : World} {ops : Array Oper} {rest : List Oper} {o : Oper} {a : Act} {Q : Exit → Act → World → Prop} (hF : Fits t e k bytes z) (hE : Encs k enc) (hgd : o.guard = none) (s y : Operand) (ho : o.op = .call { callee := .builtin .append, args := #[s, y], argTypes := #[t, t] })
    (hs : a.eval s = v) (hy : a.eval y = x) (hO : Hold k e enc ok ex wr base v l) (hb : Below wr.heap.size wr w) (hm : IsRows k enc w x m) (hmo : ∀ u ∈ m, Off ok w (Ex v ex) u) (hbase : base ≤ wr.heap.size) (hL : l.length ≤ 1000000) (hM : m.length ≤ 1000000)
    (h : ∀ p c w', Hold k e enc ok ex w' base (.slice p (l ++ m).length c) (l ++ m) → Below base wr w' → w.grownBy w' v.ownBlock → ((Value.slice p (l ++ m).length c).ownBlock = v.ownBlock ∨ (Value.slice p (l ++ m).length c).ownBlock = some w.heap.size) → wpList Tryd.prog ops Q rest (a.put o.dst (.slice p (l ++ m).length c)) w') : wpList Tryd.prog ops Q (o :: rest) a w :=
  wpList_plain hgd fun _ hK => by
    obtain ⟨p, c, w', hr, h2, h3, h4, h5⟩ := run_holdU o.type hF hE hO hb hm hmo hbase hL hM
    unfold Oper.wp execOp
    simp only [ho, resolve, invoke, builtin, Sem.run_bind, Sem.run_pure, Result.andThen_ok, List.map_toArray, List.map_cons, List.map_nil, hs, hy, hr]
    exact hK _ _ (h p c w' h2 h3 h4 h5)
end
/-- What walk returns. -/
def WalkRet (n : Nat) (p : Tp) (t : Tr) (base : Nat) (vout : Value) (l : List RR) (w : World) (e : Ending) (w' : World) : Prop := ∃ u L, e = .returned u ∧ Hold 2 44 encR RowOk noB w' base u (l ++ L) ∧ Hid (rows L = walkL n p t) ∧ Agree (Ex vout noB) w w' ∧ (∀ k, u.ownBlock = some k → vout.ownBlock = some k ∨ w.heap.size ≤ k)
def WalkC (n : Nat) : Prop := ∀ (base : Nat) (vout : Value) (l : List RR) (t : TR) (vp : Value) (p : Tp) (w : World), Hold 2 44 encR RowOk noB w base vout l → base ≤ w.heap.size → (∀ W, Agree (Ex vout noB) w W → TrOk W t) → (∀ W, Agree (Ex vout noB) w W → IsVals W vp p) → validT n t.tr = true → emptyB t.tr = false → Lim t.tr → l.length + (walkL n p t.tr).length ≤ 100000 → p.length + n ≤ 1000 → Calls Tryd.prog 112 #[vout, trV t, vp] w (WalkRet n p t.tr base vout l w)
set_option maxHeartbeats 4000000 in
set_option maxRecDepth 1000000 in
theorem walk_zero : WalkC 0 := by
  intro base vout l t vp p w H hbase ht hp hv he hl hln hpn
  have h0 : t.vs.length = 0 := by
    unfold validT at hv
    rw [Bool.and_eq_true, decide_eq_true_iff, TR.tr_vs] at hv
    omega
  obtain ⟨pp, pc, rfl, -⟩ := id (hp w (Agree.refl _ _))
  obtain ⟨po, co, rfl⟩ := H.form
  unfold trV
  have BA := below_new w (.cells #[t.vv, t.kv, t.wv] 64)
  have X := Cel.new w 64 [t.vv, t.kv, t.wv]
  obtain ⟨wA, hwA⟩ : ∃ z, w.alloc (.cells #[t.vv, t.kv, t.wv] 64) = z := ⟨_, rfl⟩
  rw [hwA] at X BA
  have q0 := X.at_ (j := 0) rfl
  have q2 := X.at_ (j := 2) rfl
  unfold TR.vv at q0
  rw [h0] at q0
  have hl1 : l.length ≤ 100000 := by omega
  have hO : Off RowOk w (Ex (.slice po l.length co) noB) (⟨pp, pc, p, t.pw, t.cw, t.s⟩ : RR) := fun W hW => ⟨hp W hW, (ht W hW).spans⟩
  have H1 := H.keep BA
  have bX := below_new wA (.cells #[.slice pp p.length pc, .slice t.pw t.s.length t.cw] 44)
  have hm : IsRows 2 encR (wA.alloc (.cells #[.slice pp p.length pc, .slice t.pw t.s.length t.cw] 44)) (.slice (some ⟨wA.heap.size, 0, none⟩) 1 1) [(⟨pp, pc, p, t.pw, t.cw, t.s⟩ : RR)] := IsRows.lit wA [_] encsR (by simp)
  have hmo : ∀ u ∈ [(⟨pp, pc, p, t.pw, t.cw, t.s⟩ : RR)], Off RowOk (wA.alloc (.cells #[.slice pp p.length pc, .slice t.pw t.s.length t.cw] 44)) (Ex (.slice po l.length co) noB) u := fun u hu => by
    rw [List.mem_singleton.1 hu]
    exact (hO.keep BA).keep bX
  have hbA : base ≤ wA.heap.size := Nat.le_trans hbase BA.size
  unfold TR.wv at q2
  clear hv he hl hln hpn ht hp hO X h0
  go_enter Tryd.func112, Tryd.ntmps112
  go_wp2_with (at_builtin; refine wpList_holdU fitsR24 encsR rfl _ _ rfl rfl rfl H1 bX hm hmo hbA (by omega) (by simp) ?_; intro p9 c9 w9 H9 B9 hG9 hU9; rw [show (l ++ [(⟨pp, pc, p, t.pw, t.cw, t.s⟩ : RR)]).length = l.length + 1 from by simp] at H9 hU9)
  go_ret
  refine ⟨_, [(⟨pp, pc, p, t.pw, t.cw, t.s⟩ : RR)], rfl, H9, Lib.hid (by unfold walkL; rw [TR.tr_s]; rfl), ?_, ?_⟩
  · exact ((Agree.of_below BA).trans (Agree.of_below bX)).trans (.of_grown hG9 fun k hk => .inl hk)
  · intro k hk
    rcases hU9 with e | e
    · exact .inl ((show (Value.slice po l.length co).ownBlock = (Value.slice p9 (l.length + 1) c9).ownBlock from e.symm).trans hk)
    · have hk := e.symm.trans hk
      injection hk with hk
      exact .inr (by rw [← hk]; exact Nat.le_trans BA.size bX.size)
theorem cloneV_ts {vp : Value} {p : Tp} {w0 w : World} {Q : Ending → World → Prop} (hp : IsVals w0 vp p) (hl : p.length ≤ 1000000) (hb : Below w0.heap.size w0 w)
    (k : ∀ a c w', Owns 3 58 encVl w' w0.heap.size (.slice a p.length c) p → Below w0.heap.size w0 w' → Below w.heap.size w w' → Q (.returned (.slice a p.length c)) w') : Calls Tryd.prog 129 #[vp] w Q :=
  (CloneV_any vp p w (hp.keep hb) hl).mono fun e w' ⟨u, he, hO, hB⟩ => by
    obtain ⟨a, c, rfl⟩ := hO.form
    subst he
    exact k a c w' (hO.mono hb.size) (below_trans hb hB) hB
theorem walk_ts {n base : Nat} {v0 D : Value} {l : List RR} {kid : TR} {p' : Tp} {w0 w : World} {Q : Ending → World → Prop} (hIH : ∀ W, Below w0.heap.size w0 W → Calls Tryd.prog 112 #[v0, trV kid, D] W (WalkRet n p' kid.tr base v0 l W)) (hb : Below w0.heap.size w0 w)
    (k : ∀ u L w', Hold 2 44 encR RowOk noB w' base u (l ++ L) → Hid (rows L = walkL n p' kid.tr) → Agree (Ex v0 noB) w0 w' → (∀ k, u.ownBlock = some k → v0.ownBlock = some k ∨ w0.heap.size ≤ k) → Q (.returned u) w') : Calls Tryd.prog 112 #[v0, .agg #[kid.vv, kid.kv, kid.wv], D] w Q :=
  (hIH w hb).mono fun e w' ⟨u, L, he, h1, h2, h3, h4⟩ => by
    subst he
    exact k u L w' h1 h2 ((Agree.of_below hb).trans h3) fun k hk => (h4 k hk).imp id fun q => Nat.le_trans hb.size q
theorem flat_take {α β : Type} {F : α → List β} {zs : List α} {i : Nat} {z : α} (h : zs[i]? = some z) : ((zs.take i).flatMap F).length + (F z).length ≤ (zs.flatMap F).length := by
  have e : zs.flatMap F = (zs.take (i + 1)).flatMap F ++ (zs.drop (i + 1)).flatMap F := by rw [← List.flatMap_append, List.take_append_drop]
  rw [e, take_succ' h, List.flatMap_append, List.length_append, List.length_append]
  simp
theorem emptyB_false {t : Tr} (h : emptyB t = false) : ¬ t.vs.length + t.s.length = 0 := by unfold emptyB at h; simpa using h
theorem validT_parts {n : Nat} {t : Tr} (h : validT (n + 1) t = true) : t.s.length = 0 ∧ t.ks.length = t.vs.length ∧ ∀ j, j < t.ks.length → okK (validT n) t.vs t.ks j = true := by
  rw [validT_succ, Bool.and_eq_true, Bool.and_eq_true, decide_eq_true_iff, decide_eq_true_iff, List.all_eq_true] at h
  exact ⟨h.1.1, h.1.2, fun j hj => h.2 j (List.mem_range.2 hj)⟩
theorem okK_kid {V : Tr → Bool} {vs : List Vl} {ks : List Tr} {j : Nat} {k : Tr} (h : okK V vs ks j = true) (hk : ks[j]? = some k) : emptyB k = false ∧ V k = true := by
  unfold okK at h
  rw [hk, Bool.and_eq_true] at h
  have := h.2
  simp only [Bool.and_eq_true, Bool.not_eq_true'] at this
  exact this
/-- What the recursive call of walk needs. -/
theorem walk_arm {n base : Nat} {v0 vo D : Value} {l : List RR} {kid : TR} {p' : Tp} {w1 wB w9 : World} (IH : WalkC n) (HW : Hold 2 44 encR RowOk noB wB base v0 l) (hb : base ≤ wB.heap.size) (AG : Agree (Ex vo noB) w1 wB)
    (hk : ∀ W, Agree (Ex vo noB) w1 W → TrOk W kid) (h0 : ∀ k, Ex v0 noB k → k < wB.heap.size) (h1 : ∀ k, Ex v0 noB k → Ex vo noB k ∨ w1.heap.size ≤ k) (hv : emptyB kid.tr = false ∧ validT n kid.tr = true) (hL : Lim kid.tr) (hl : l.length + (walkL n p' kid.tr).length ≤ 100000) (hn : p'.length + n ≤ 1000)
    (h9 : Below wB.heap.size wB w9) (H9 : Owns 3 58 encVl w9 wB.heap.size D p') : ∀ W, Below w9.heap.size w9 W → Calls Tryd.prog 112 #[v0, trV kid, D] W (WalkRet n p' kid.tr base v0 l W) := fun W hW =>
  IH base v0 l kid D p' W ((HW.keep h9).keep hW) (Nat.le_trans hb (Nat.le_trans h9.size hW.size)) (fun W' hW' => hk W' ((AG.trans ((Agree.of_below h9).trans (Agree.of_below hW))).step hW' h1))
    (fun W' hW' => (H9.keep hW |>.agree hW' h0).is encsV (by omega)) hv.2 hv.1 hL hl hn
set_option maxHeartbeats 4000000 in
set_option maxRecDepth 1000000 in
theorem walk_succ (n : Nat) (IH : WalkC n) : WalkC (n + 1) := by
  intro base vout l t vp p w H hbase ht hp hv he hl hln hpn
  obtain ⟨hs0, hkv, hok⟩ := validT_parts hv
  have hve := emptyB_false he
  have hlm := hl.len
  have HSUB := Lib.hid hl.sub
  rw [TR.tr_s] at hs0
  rw [TR.tr_ks, TR.tr_vs, List.length_map] at hkv
  rw [TR.tr_vs, TR.tr_s] at hve
  rw [TR.tr_vs, TR.tr_s, TR.tr_ks, List.length_map] at hlm
  have HOK := Lib.hid hok
  have HKV := Lib.hid hkv
  have hvp : 0 < t.vs.length := by omega
  have HLN := Lib.hid hln
  clear hv he hl hok hve hs0 hln
  obtain ⟨pp, pc, rfl, -⟩ := id (hp w (Agree.refl _ _))
  obtain ⟨po, co, rfl⟩ := H.form
  unfold trV
  obtain ⟨b4, hb4⟩ : ∃ b, w.heap.size = b := ⟨_, rfl⟩
  have BA := below_new w (.cells #[t.vv, t.kv, t.wv] 64)
  have X := Cel.new w 64 [t.vv, t.kv, t.wv]
  obtain ⟨w1, hw1⟩ : ∃ z, w.alloc (.cells #[t.vv, t.kv, t.wv] 64) = z := ⟨_, rfl⟩
  rw [hw1] at X BA
  rw [hb4] at X
  have q0 := X.at_ (j := 0) rfl
  unfold TR.vv at q0
  have H1 := H.keep BA
  have hbA : base ≤ w1.heap.size := Nat.le_trans hbase BA.size
  have h4v : ∀ k, Ex (.slice po l.length co) noB k → k < b4 := fun k hk => by
    rw [← hb4]
    rcases hk with hk | hk
    · exact (H.1.lt k hk).2
    · exact hk.elim
  have hw1' : w.heap.size ≤ w1.heap.size := BA.size
  have HT1 := Lib.hid (show ∀ W, Agree (Ex (.slice po l.length co) noB) w1 W → TrOk W t from fun W hW => ht W ((Agree.of_below BA).trans hW))
  have HP1 := Lib.hid (show ∀ W, Agree (Ex (.slice po l.length co) noB) w1 W → IsVals W (.slice pp p.length pc) p from fun W hW => hp W ((Agree.of_below BA).trans hW))
  have HBA := Lib.hid BA
  clear ht hp H BA
  have hne : ((t.vs.length : Int) == 0) = false := by rw [beq_eq_false_iff_ne]; omega
  go_enter Tryd.func112, Tryd.ntmps112
  go_upto_region 1 with fail
  clear hw1
  go_wp2
  go_loopg [0, 23] t.vs.length (fun g v0 vi wr => ∃ (i : Nat) (L : List RR), vi = .int .i64 i ∧ i ≤ t.vs.length ∧ t.vs.length - i ≤ g ∧ Hold 2 44 encR RowOk noB wr base v0 (l ++ L) ∧ Hid (rows L = ((t.tr.vs.zip t.tr.ks).take i).flatMap fun q => walkL n (p ++ [q.1]) q.2) ∧ Agree (Ex (.slice po l.length co) noB) w1 wr ∧ (∀ k, v0.ownBlock = some k → (Value.slice po l.length co).ownBlock = some k ∨ w1.heap.size ≤ k))
  case atStart => exact ⟨0, [], rfl, Nat.zero_le _, Nat.le_refl _, by rw [List.append_nil]; exact H1, Lib.hid rfl, Agree.refl _ _, fun k hk => .inl hk⟩
  case round =>
    obtain ⟨i, L, rfl, hi, hg, HW, V, AG, hU⟩ := hrel
    obtain ⟨M, hM⟩ : ∃ M, l ++ L = M := ⟨_, rfl⟩
    rw [hM] at HW
    obtain ⟨p0, c0, rfl⟩ := HW.form
    have HM := Lib.hid hM
    clear hM
    by_cases hlt : i < t.vs.length
    · have hltz : (i : Int) < (t.vs.length : Int) := by omega
      obtain ⟨y, hy⟩ := getElem_of_lt hlt
      obtain ⟨kid, hk⟩ := getElem_of_lt (l := t.ks) (i := i) (by rw [HKV.out]; exact hlt)
      have hltk : (i : Int) < (t.ks.length : Int) := by rw [HKV.out]; exact hltz
      have htr := HT1.out wr AG
      obtain ⟨bv, ov, ev, d0, d1, d2⟩ := vals_at' htr.vals hy
      obtain ⟨bk, ok, ek, k0, k1, k2, -⟩ := htr.tries.at_ hk
      have hkm := List.mem_of_getElem? hk
      have HKT := Lib.hid (show ∀ W, Agree (Ex (.slice po l.length co) noB) w1 W → TrOk W kid from fun W hW => (HT1.out W hW).sub kid hkm)
      have hk' : t.tr.ks[i]? = some kid.tr := by rw [TR.tr_ks, List.getElem?_map, hk]; rfl
      obtain ⟨hke, hkvd⟩ := okK_kid (HOK.out i (by rw [TR.tr_ks, List.length_map, HKV.out]; exact hlt)) hk'
      have hkl := HSUB.out kid.tr (List.mem_of_getElem? hk')
      have hz : (t.tr.vs.zip t.tr.ks)[i]? = some (y, kid.tr) := by rw [List.getElem?_zip_eq_some]; exact ⟨by rw [TR.tr_vs]; exact hy, hk'⟩
      have hfl : L.length + (walkL n (p ++ [y]) kid.tr).length ≤ (walkL (n + 1) p t.tr).length := by
        have := flat_take (F := fun q : Vl × Tr => walkL n (p ++ [q.1]) q.2) hz
        rw [← rows_length L, V.out]
        exact this
      have HN := Lib.hid (fun L' (h : rows L' = walkL n (p ++ [y]) kid.tr) => show rows (L ++ L') = ((t.tr.vs.zip t.tr.ks).take (i + 1)).flatMap fun q => walkL n (p ++ [q.1]) q.2 from by
        rw [take_succ' hz, List.flatMap_append, rows_append, V.out, h]
        simp)
      have hfl2 := HLN.out
      have hlL : M.length + (walkL n (p ++ [y]) kid.tr).length ≤ 100000 := by rw [← HM.out, List.length_append]; omega
      have hpr := HP1.out wr AG
      have x4 : ∀ W, Agree (Ex (.slice po l.length co) noB) w1 W → W.cell? ⟨b4, 1, none⟩ = some t.kv := fun W hW => hW.cell (X.at_ (j := 1) rfl) fun q => by have := h4v b4 q; omega
      have HFL := Lib.hid hlL
      have HKL := Lib.hid hkl
      have HKV2 := Lib.hid (show emptyB kid.tr = false ∧ validT n kid.tr = true from ⟨hke, hkvd⟩)
      have hpn' : (p ++ [y]).length + n ≤ 1000 := by rw [List.length_append]; simp; omega
      clear hkl hke hkvd
      clear hz hk' hkm hfl hfl2 hlL hk hy htr
      unfold strV at d2
      obtain ⟨wC, hwC⟩ : ∃ z, wr.alloc (.cells #[.int .i64 0, .int .i64 0, .string ⟨#[]⟩] 58) = z := ⟨_, rfl⟩
      have BC : Below wr.heap.size wr wC := by rw [← hwC]; exact below_new _ _
      have XC : Cel wC wr.heap.size 58 [.int .i64 0, .int .i64 0, .string ⟨#[]⟩] := by rw [← hwC]; exact Cel.new wr 58 _
      obtain ⟨b8, hb8⟩ : ∃ b, wr.heap.size = b := ⟨_, rfl⟩
      rw [hb8] at XC BC
      have y0 := XC.at_ (j := 0) rfl
      have y1 := XC.at_ (j := 1) rfl
      have y2 := XC.at_ (j := 2) rfl
      have f0 := XC.free 0
      have f1 := XC.free 1
      have f2 := XC.free 2
      have Z := ((XC.set 0 (.int .i64 y.t)).set 1 (.int .i64 y.n)).set 2 (.string ⟨y.s.toArray⟩)
      have BZ := ((BC.setCell (p := ⟨b8, 0, none⟩) (Nat.le_refl _) (.int .i64 y.t)).setCell (p := ⟨b8, 1, none⟩) (Nat.le_refl _) (.int .i64 y.n)).setCell (p := ⟨b8, 2, none⟩) (Nat.le_refl _) (.string ⟨y.s.toArray⟩)
      obtain ⟨wB, hwB⟩ : ∃ z, ((wC.setCell ⟨b8, 0, none⟩ (.int .i64 y.t)).setCell ⟨b8, 1, none⟩ (.int .i64 y.n)).setCell ⟨b8, 2, none⟩ (.string ⟨y.s.toArray⟩) = z := ⟨_, rfl⟩
      rw [hwB] at Z BZ
      rw [← hb8] at BZ
      have z0 := Z.at_ (j := 0) rfl
      have z1 := Z.at_ (j := 1) rfl
      have z2 := Z.at_ (j := 2) rfl
      have c4 := cell_keep BZ (x4 wr AG)
      unfold TR.kv at c4
      rw [ek] at c4
      have g0 := cell_keep BZ k0
      have g1 := cell_keep BZ k1
      have g2 := cell_keep BZ k2
      have AGB := AG.trans (Agree.of_below BZ)
      have HWB := HW.keep BZ
      have hprB := hpr.keep BZ
      have hbB : base ≤ wB.heap.size := Nat.le_trans hbA AGB.size
      have hpl : p.length ≤ 1000 := by omega
      have hv0 : ∀ k, Ex (.slice p0 M.length c0) noB k → k < wB.heap.size := fun k hk => by
        rcases hk with hk | hk
        · exact (HWB.1.lt k hk).2
        · exact hk.elim
      have hv0' : ∀ k, Ex (.slice p0 M.length c0) noB k → Ex (.slice po l.length co) noB k ∨ w1.heap.size ≤ k := fun k hk => by
        rcases hk with hk | hk
        · exact (hU k hk).imp .inl id
        · exact hk.elim
      clear Z BC XC hpr
      go_upto_region 6 with fail
      clear y0 y1 y2 f0 f1 f2 k0 k1 k2 d0 d1 d2 hwC hwB x4
      have hmB : IsRows 3 encVl (wB.alloc (.cells #[.int .i64 y.t, .int .i64 y.n, .string ⟨y.s.toArray⟩] 58)) (.slice (some ⟨wB.heap.size, 0, none⟩) 1 1) [y] := IsRows.lit wB [y] encsV (by simp)
      have bL := below_new wB (.cells #[.int .i64 y.t, .int .i64 y.n, .string ⟨y.s.toArray⟩] 58)
      have c4l := cell_keep bL c4
      have g0l := cell_keep bL g0
      have g1l := cell_keep bL g1
      have g2l := cell_keep bL g2
      go_region_law
        (first
          | (go_simp; go_at_call 129; refine cloneV_ts (w0 := wB) hprB (by omega) (by with_reducible (repeat (first | assumption | exact Below.refl _ _ | refine below_alloc' ?_ | refine below_drew' ?_ | refine below_step (by assumption) ?_))) ?_; intro pa ca wK HC BK BJ; have bX := below_new wK (.cells #[.int .i64 y.t, .int .i64 y.n, .string ⟨y.s.toArray⟩] 58); have hmr : IsRows 3 encVl (wK.alloc (.cells #[.int .i64 y.t, .int .i64 y.n, .string ⟨y.s.toArray⟩] 58)) (.slice (some ⟨wK.heap.size, 0, none⟩) 1 1) [y] := IsRows.lit wK [y] encsV (by simp); have z0k := cell_keep BK z0; have z1k := cell_keep BK z1; have z2k := cell_keep BK z2; have c4k := cell_keep BK c4; have g0k := cell_keep BK g0; have g1k := cell_keep BK g1; have g2k := cell_keep BK g2; have hBs := BK.size; have c4m := cell_keep bX c4k; have g0m := cell_keep bX g0k; have g1m := cell_keep bX g1k; have g2m := cell_keep bX g2k)
          | (refine step_own (wr := wK) (v := .slice pa p.length ca) fitsV encsV (by rfl) (.tmp 35) (.tmp 37) (by rfl) (by rfl) (by rfl) HC (by first | exact bX | exact bX.drew | exact bX.drew.drew | exact Below.refl _ _ | exact (Below.refl _ _).drew | exact (Below.refl _ _).drew.drew | exact (Below.refl _ _).drew.drew.drew) (by first | exact hmr | exact hmB.keep (keeps_below BJ) | exact (hmB.keep (keeps_below (Below.refl _ _).drew)).keep (keeps_below BJ) | exact (hmB.keep (keeps_below (Below.refl _ _).drew.drew)).keep (keeps_below BJ)) (by omega) (by omega) (by simp) ?_; intro p9 c9 w9 H9 B9 hG9 hU9; have hIH := walk_arm IH HWB hbB AGB HKT.out hv0 hv0' HKV2.out HKL.out HFL.out hpn' (BK.trans (B9.mono (Nat.le_refl _))) H9; rw [show (p ++ [y]).length = p.length + 1 from by simp] at hIH hU9; have BN := BK.trans (B9.mono (Nat.le_refl _)); have c4n := cell_keep BN c4; have g0n := cell_keep BN g0; have g1n := cell_keep BN g1; have g2n := cell_keep BN g2)
          | (go_simp; go_at_call 112; refine walk_ts hIH (by with_reducible (repeat (first | assumption | exact Below.refl _ _ | refine below_alloc' ?_ | refine below_drew' ?_ | refine below_step (by assumption) ?_))) ?_; intro u9 L9 wF HF HL9 AF hUF))
      all_goals
        have VN := Lib.hid (HN.out L9 HL9.out)
        have AGN := (AGB.trans (Agree.of_below BN)).step AF hv0'
        have HFN : Hold 2 44 encR RowOk noB wF base u9 (l ++ (L ++ L9)) := by rw [← List.append_assoc, HM.out]; exact HF
        have hUN : ∀ k, u9.ownBlock = some k → (Value.slice po l.length co).ownBlock = some k ∨ w1.heap.size ≤ k := fun k hk => by
          rcases hUF k hk with h | h
          · exact hU k h
          · exact .inr (Nat.le_trans AGB.size (Nat.le_trans BN.size h))
        clear hmr hmB hIH H9 HC bX bL c4 c4k c4l c4m c4n g0 g1 g2 g0k g1k g2k g0l g1l g2l g0m g1m g2m g0n g1n g2n z0 z1 z2 z0k z1k z2k HF hG9 hU9
        go_wp2
        rw [← ek, ← ev]
        go_roundg (t.vs.length - (i + 1))
        case measure => omega
        case rel => exact ⟨i + 1, L ++ L9, by go_num, hlt, Nat.le_refl _, HFN, VN, AGN, hUN⟩
    · have hltz : ¬ (i : Int) < (t.vs.length : Int) := by omega
      have hres : rows L = walkL (n + 1) p t.tr := by
        rw [V.out, List.take_of_length_le (by rw [List.length_zip, TR.tr_vs]; omega)]
        rfl
      have RES := Lib.hid hres
      clear hres
      go_wp2
      go_ret
      exact ⟨_, L, rfl, by rw [HM.out]; exact HW, RES, (Agree.of_below HBA.out).trans AG, fun k hk => (hU k hk).imp id fun q => Nat.le_trans HBA.out.size q⟩
end Go.Proofs.YtdibijhaiaiifaaDoor
