/- Parts Zf, Zg: words, walks and laws that the claims of this seat share. -/
import Derived.Test.YtdibijhaiaiifaaDoorJ22
import Derived.Test.YtdibijhaiaiifaaDoorJ14
/- The walk of the reference's rows. -/
namespace Go.Proofs.YtdibijhaiaiifaaDoor
open Go.RowKit
section
variable {α : Type} {ok : World → α → Prop} {k bytes : Nat} {t e : TypeId} {z : Value} {enc : α → List Value} {wr w w' : World} {base : Nat} {v x : Value} {l m : List α} {ex : Nat → Prop}
theorem Owns.lits (w : World) (l : List α) (hE : Encs k enc) (hl : l.length ≤ maxLen) : Owns k e enc (w.alloc (.cells (l.flatMap enc).toArray e)) w.heap.size (.slice (some ⟨w.heap.size, 0, none⟩) l.length l.length) l := by
  have hs : (l.flatMap enc).toArray.size = l.length * k := by
    rw [List.size_toArray]
    clear hl
    induction l with
    | nil => simp
    | cons a l ih => rw [List.flatMap_cons, List.length_append, ih, hE.len, List.length_cons, Nat.succ_mul, Nat.add_comm]
  have := World.ownsRow_lit (base := w.heap.size) (e := e) (size := k) w (l.flatMap enc).toArray l.length (Nat.le_refl _) hl hs
  unfold Owns
  simpa using this
theorem wp_holdU {w : World} {o : Oper} {a : Act} {K : Act → World → Prop} {Q : Exit → Act → World → Prop} (hF : Fits t e k bytes z) (hE : Encs k enc) (s y : Operand) (ho : o.op = .call { callee := .builtin .append, args := #[s, y], argTypes := #[t, t] })
    (hs : a.eval s = v) (hy : a.eval y = x) (hO : Hold k e enc ok ex wr base v l) (hb : Below wr.heap.size wr w) (hm : IsRows k enc w x m) (hmo : ∀ u ∈ m, Off ok w (Ex v ex) u) (hbase : base ≤ wr.heap.size) (hL : l.length ≤ 1000000) (hM : m.length ≤ 1000000)
    (h : ∀ p c w', Hold k e enc ok ex w' base (.slice p (l ++ m).length c) (l ++ m) → Below base wr w' → w.grownBy w' v.ownBlock → ((Value.slice p (l ++ m).length c).ownBlock = v.ownBlock ∨ (Value.slice p (l ++ m).length c).ownBlock = some w.heap.size) → K (a.put o.dst (.slice p (l ++ m).length c)) w') : Oper.wp Tryd.prog o a w K Q := by
  obtain ⟨p, c, w', hr, h2, h3, h4, h5⟩ := run_holdU o.type hF hE hO hb hm hmo hbase hL hM
  unfold Oper.wp execOp
  simp only [ho, resolve, invoke, builtin, Sem.run_bind, Sem.run_pure, Result.andThen_ok, List.map_toArray, List.map_cons, List.map_nil, hs, hy, hr]
  exact h p c w' h2 h3 h4 h5
theorem step_holdU {w : World} {ops : Array Oper} {o : Oper} {a : Act} {K : Act → World → Prop} {Q : Exit → Act → World → Prop} {E : Prop} (hF : Fits t e k bytes z) (hE : Encs k enc) (hw : Region.wanted o (yielded ops a.tmps) = true) (s y : Operand) (ho : o.op = .call { callee := .builtin .append, args := #[s, y], argTypes := #[t, t] })
    (hs : a.eval s = v) (hy : a.eval y = x) (hO : Hold k e enc ok ex wr base v l) (hb : Below wr.heap.size wr w) (hm : IsRows k enc w x m) (hmo : ∀ u ∈ m, Off ok w (Ex v ex) u) (hbase : base ≤ wr.heap.size) (hL : l.length ≤ 1000000) (hM : m.length ≤ 1000000)
    (h : ∀ p c w', Hold k e enc ok ex w' base (.slice p (l ++ m).length c) (l ++ m) → Below base wr w' → w.grownBy w' v.ownBlock → ((Value.slice p (l ++ m).length c).ownBlock = v.ownBlock ∨ (Value.slice p (l ++ m).length c).ownBlock = some w.heap.size) → K (a.put o.dst (.slice p (l ++ m).length c)) w') : if Region.wanted o (yielded ops a.tmps) = true then Oper.wp Tryd.prog o a w K Q else E := by
  rw [if_pos hw]
  exact wp_holdU hF hE s y ho hs hy hO hb hm hmo hbase hL hM h
end
/-- What rows returns. -/
def RowsRet (X : Nat → Prop) (n : Nat) (t : Tr) (w : World) (e : Ending) (w' : World) : Prop := ∃ p c L, e = .returned (.slice p (List.length L) c) ∧ (∀ W, Agree X w' W → IsRel W (.slice p L.length c) L) ∧ Hid (rows L = walkL n [] t) ∧ Below w.heap.size w w'
def RowsC (n : Nat) : Prop := ∀ (X : Nat → Prop) (t : TR) (w : World), (∀ k, X k → k < w.heap.size) → (∀ W, Agree X w W → TrOk W t) → validT n t.tr = true → Lim t.tr → (walkL n [] t.tr).length ≤ 100000 → n ≤ 1000 → Calls Tryd.prog 113 #[.int .i64 n, trV t] w (RowsRet X n t.tr w)
set_option maxHeartbeats 4000000 in
set_option maxRecDepth 1000000 in
theorem rrows_zero : RowsC 0 := by
  intro X t w hX ht hv hl hln hn
  clear hv hl hln hn
  unfold trV
  have BA := below_new w (.cells #[t.vv, t.kv, t.wv] 64)
  have XX := Cel.new w 64 [t.vv, t.kv, t.wv]
  obtain ⟨w1, hw1⟩ : ∃ z, w.alloc (.cells #[t.vv, t.kv, t.wv] 64) = z := ⟨_, rfl⟩
  rw [hw1] at XX BA
  have q2 := XX.at_ (j := 2) rfl
  have bL := below_new w1 (.cells #[.slice none 0 0, t.wv] 44)
  have hL : ∀ W, Agree X (w1.alloc (.cells #[.slice none 0 0, t.wv] 44)) W → IsRel W (.slice (some ⟨w1.heap.size, 0, none⟩) 1 1) [(⟨none, 0, [], t.pw, t.cw, t.s⟩ : RR)] := fun W hW => by
    have hm : IsRows 2 encR (w1.alloc (.cells #[.slice none 0 0, t.wv] 44)) (.slice (some ⟨w1.heap.size, 0, none⟩) 1 1) [(⟨none, 0, [], t.pw, t.cw, t.s⟩ : RR)] := IsRows.lit w1 [_] encsR (by simp)
    refine ⟨hm.agree hW fun b hb hx => ?_, fun x hx => ?_⟩
    · have h1 := hX b hx
      have h2 : b = w1.heap.size := by injection hb with hb; exact hb.symm
      have := BA.size
      omega
    · rw [List.mem_singleton.1 hx]
      exact ⟨IsVals.nil W, (ht W ((Agree.of_below (BA.trans (bL.mono BA.size))).trans hW)).spans⟩
  have BB := BA.trans (bL.mono BA.size)
  clear ht hX XX bL
  go_enter Tryd.func113, Tryd.ntmps113
  go_wp2
  go_ret
  exact ⟨_, _, [(⟨none, 0, [], t.pw, t.cw, t.s⟩ : RR)], rfl, hL, Lib.hid (by unfold walkL; rw [TR.tr_s]; rfl), BB⟩
theorem row_off {X : Nat → Prop} {v : Value} {wr w9 : World} {p9 : Option Addr} {c9 : Nat} {y : Vl} {x : RR} (HRX : ∀ W, Agree (Ex v X) wr W → RowOk W x) (HEX : ∀ k, Ex v X k → k < wr.heap.size) (hb : Below wr.heap.size wr w9) (H9 : Owns 3 58 encVl w9 wr.heap.size (.slice p9 (x.t.length + 1) c9) ([y] ++ x.t)) (hl : x.t.length ≤ 1000) : ∀ W, Below w9.heap.size w9 W → ∀ u ∈ [(⟨p9, c9, [y] ++ x.t, x.pw, x.cw, x.s⟩ : RR)], Off RowOk W (Ex v X) u := fun W hW u hu => by
  rw [List.mem_singleton.1 hu]
  intro W' hW'
  have hA : Agree (Ex v X) w9 W' := (Agree.of_below hW).trans hW'
  exact ⟨(H9.agree hA HEX).is encsV (by simp; omega), (HRX W' ((Agree.of_below hb).trans hA)).2⟩
theorem off_next {X : Nat → Prop} {v v' : Value} {wr wm w' : World} {u : Value} {Lb : List RR} (h : ∀ W, Agree (Ex v X) wr W → IsRel W u Lb) (hb : Below wr.heap.size wr wm) (hG : wm.grownBy w' v.ownBlock) (hU : v'.ownBlock = v.ownBlock ∨ v'.ownBlock = some wm.heap.size) : ∀ W, Agree (Ex v' X) w' W → IsRel W u Lb := fun W hW => by
  refine Off.next (ok := fun W (_ : Unit) => IsRel W u Lb) (x := ()) (fun a b hab q => q.keep hab) (fun W hW => h W hW) ((Agree.of_below hb).trans (Agree.of_grown hG fun k hk => .inl hk)) (fun k hk => ?_) W hW
  rcases hk with hk | hk
  · rcases hU with e | e
    · exact .inl (.inl (e.symm.trans hk))
    · right
      have := e.symm.trans hk
      injection this with this
      rw [← this]; exact hb.size
  · exact .inl (.inr hk)
theorem walk_pre {n : Nat} {t : Tr} (y : Vl) (hv : validT n t = true) (he : emptyB t = false) : walkL n [y] t = (walkL n [] t).map (consW y) := by
  obtain ⟨F, hF, rfl⟩ := valid_gd hv
  have hne : F ≠ [] := fun e => by rw [build_empty hF, decide_eq_true e] at he; cases he
  rw [walk_build _ hF hne, walk_build _ hF hne, List.map_map]
  exact List.map_congr_left fun x _ => rfl
theorem walk_cons {n : Nat} {t : Tr} (hv : validT (n + 1) t = true) : (t.vs.zip t.ks).flatMap (fun q => (walkL n [] q.2).map (consW q.1)) = walkL (n + 1) [] t := by
  obtain ⟨-, h2, h3⟩ := validT_parts hv
  show _ = (t.vs.zip t.ks).flatMap fun q => walkL n ([] ++ [q.1]) q.2
  rw [List.flatMap_def, List.flatMap_def]
  congr 1
  refine List.map_congr_left fun q hq => ?_
  obtain ⟨i, hi⟩ := List.mem_iff_getElem?.1 hq
  obtain ⟨-, hk⟩ := List.getElem?_zip_eq_some.1 hi
  obtain ⟨h4, h5⟩ := okK_kid (h3 i (List.getElem?_eq_some_iff.1 hk).1) hk
  exact (walk_pre q.1 h5 h4).symm
theorem walk_tuples {n : Nat} {t : Tr} (hv : validT n t = true) (he : emptyB t = false) : ∀ x ∈ walkL n [] t, x.1.length = n := by
  obtain ⟨F, hF, rfl⟩ := valid_gd hv
  have hne : F ≠ [] := fun e => by rw [build_empty hF, decide_eq_true e] at he; cases he
  rw [walk_build _ hF hne, map_nil_app]
  exact hF.len
set_option maxHeartbeats 8000000 in
set_option maxRecDepth 1000000 in
theorem rrows_succ (n : Nat) (IH : RowsC n) : RowsC (n + 1) := by
  intro X t w hX ht hv hl hln hn
  obtain ⟨hs0, hkv, hok⟩ := validT_parts hv
  have hlm := hl.len
  have HSUB := Lib.hid hl.sub
  have HWC := Lib.hid (walk_cons hv)
  rw [TR.tr_ks, TR.tr_vs, List.length_map] at hkv
  rw [TR.tr_vs, TR.tr_s, TR.tr_ks, List.length_map] at hlm
  have HOK := Lib.hid hok
  have HLN := Lib.hid hln
  clear hv hl hok hs0 hln
  obtain ⟨m, hm⟩ : ∃ m : Int, ((n + 1 : Nat) : Int) = m := ⟨_, rfl⟩
  rw [hm]
  have me : (m == 0) = false := by rw [beq_eq_false_iff_ne]; omega
  have mp : m - 1 = (n : Int) := by omega
  have mw : IntKind.i64.wrap (n : Int) = (n : Int) := by rw [IntKind.wrap_i64]; omega
  clear hm
  unfold trV
  have BA := below_new w (.cells #[t.vv, t.kv, t.wv] 64)
  have XX := Cel.new w 64 [t.vv, t.kv, t.wv]
  obtain ⟨w1, hw1⟩ : ∃ z, w.alloc (.cells #[t.vv, t.kv, t.wv] 64) = z := ⟨_, rfl⟩
  rw [hw1] at XX BA
  go_enter Tryd.func113, Tryd.ntmps113
  go_upto_region 1 with fail
  clear hw1
  obtain ⟨b3, hb3⟩ : ∃ b, w.heap.size = b := ⟨_, rfl⟩
  have HB := Lib.hid BA
  have HX1 := Lib.hid (show ∀ k, X k → k < w1.heap.size from fun k hk => Nat.lt_of_lt_of_le (hX k hk) BA.size)
  have HT := Lib.hid (show ∀ W, Agree X w1 W → TrOk W t from fun W hW => ht W ((Agree.of_below BA).trans hW))
  rw [hb3] at XX
  rw [hb3]
  have q0 := XX.at_ (j := 0) rfl
  have q1 := XX.at_ (j := 1) rfl
  unfold TR.vv at q0
  unfold TR.kv at q1
  obtain ⟨nv, hnv⟩ : ∃ n, t.vs.length = n := ⟨_, rfl⟩
  rw [hnv] at hkv hlm q0
  rw [hkv] at q1 hlm
  have HNV := Lib.hid hnv
  have HKV := Lib.hid hkv
  clear hX ht BA XX hb3 hnv hkv
  go_upto_region 4 with fail
  have H0 : Hold 2 44 encR RowOk X (w1.alloc (.cells #[] 44)) w1.heap.size (.slice (some ⟨w1.heap.size, 0, none⟩) 0 0) [] := ⟨Owns.lit w1, by simp⟩
  have B0 := below_new w1 (.cells #[] 44)
  obtain ⟨w2, hw2⟩ : ∃ z, w1.alloc (.cells #[] 44) = z := ⟨_, rfl⟩
  rw [hw2] at H0 B0
  rw [hw2]
  obtain ⟨pz, hpz⟩ : ∃ p : Option Addr, some ⟨w1.heap.size, 0, none⟩ = p := ⟨_, rfl⟩
  rw [hpz] at H0
  rw [hpz]
  clear hw2 hpz
  go_wp2
  go_loopg [5, 6] nv (fun g v5 vi wr => ∃ (i : Nat) (L : List RR), vi = .int .i64 i ∧ i ≤ nv ∧ nv - i ≤ g ∧ Hold 2 44 encR RowOk X wr w1.heap.size v5 L ∧ Hid (rows L = ((t.tr.vs.zip t.tr.ks).take i).flatMap fun q => (walkL n [] q.2).map (consW q.1)) ∧ Below w1.heap.size w1 wr)
  case atStart => exact ⟨0, [], rfl, Nat.zero_le _, Nat.le_refl _, H0, Lib.hid rfl, B0⟩
  case round =>
    obtain ⟨i, L, rfl, hi, hg, H, V, B⟩ := hrel
    obtain ⟨p5, c5, rfl⟩ := H.form
    have c0 := cell_keep B q0
    have c1 := cell_keep B q1
    by_cases hlt : i < nv
    · have hltz : (i : Int) < (nv : Int) := by omega
      obtain ⟨y, hy⟩ := getV (l := t.vs) (i := i) (by have := HNV.out; omega)
      obtain ⟨kid, hk⟩ := getElem_of_lt (l := t.ks) (i := i) (by have := HKV.out; omega)
      have htr := HT.out wr (Agree.of_below B)
      obtain ⟨bk, ok, ek, k0, k1, k2, -⟩ := htr.tries.at_ hk
      have hkm := List.mem_of_getElem? hk
      rw [ek] at c1
      have hex : ∀ k, Ex (.slice p5 L.length c5) X k → X k ∨ w1.heap.size ≤ k := fun k hk => by
        rcases hk with hk | hk
        · exact .inr (H.1.lt k hk).1
        · exact .inl hk
      have hexl : ∀ k, Ex (.slice p5 L.length c5) X k → k < wr.heap.size := fun k hk => by
        rcases hk with hk | hk
        · exact (H.1.lt k hk).2
        · exact Nat.lt_of_lt_of_le (HX1.out k hk) B.size
      have hk' : t.tr.ks[i]? = some kid.tr := by rw [TR.tr_ks, List.getElem?_map, hk]; rfl
      obtain ⟨hke, hkvd⟩ := okK_kid (HOK.out i (by rw [TR.tr_ks, List.length_map, HKV.out]; exact hlt)) hk'
      have hkl := HSUB.out kid.tr (List.mem_of_getElem? hk')
      have hz : (t.tr.vs.zip t.tr.ks)[i]? = some (y, kid.tr) := by rw [List.getElem?_zip_eq_some]; exact ⟨by rw [TR.tr_vs]; exact hy, hk'⟩
      have hfl : L.length + (walkL n [] kid.tr).length ≤ 100000 := by
        have := flat_take (F := fun q : Vl × Tr => (walkL n [] q.2).map (consW q.1)) hz
        rw [HWC.out, List.length_map] at this
        rw [← rows_length L, V.out]
        exact Nat.le_trans this HLN.out
      have HN := Lib.hid (fun (M : List RR) (h : rows M = (walkL n [] kid.tr).map (consW y)) => show rows (L ++ M) = ((t.tr.vs.zip t.tr.ks).take (i + 1)).flatMap fun q => (walkL n [] q.2).map (consW q.1) from by
        rw [take_succ' hz, List.flatMap_append, rows_append, V.out, h]
        simp)
      have hC := IH (Ex (.slice p5 L.length c5) X) kid wr hexl (fun W hW => (HT.out W (Agree.step (Agree.of_below B) hW hex)).sub kid hkm) hkvd hkl (by omega) (by omega)
      unfold trV at hC
      have HY := Lib.hid hy
      have HTL := Lib.hid (walk_tuples hkvd hke)
      have HFL := Lib.hid hfl
      clear hz hk' hkm hke hkvd hkl hk htr hexl hex hfl V hy
      go_wp2_with fail
      refine hC.mono ?_
      rintro e5 w5 ⟨pb, cb, Lb, rfl, hLb, HLb, B5⟩
      clear hC k0 k1 k2
      have H5 := H.keep B5
      replace B := B.trans (B5.mono B.size)
      replace c0 := cell_keep B5 c0
      have hfl : L.length + Lb.length ≤ 100000 := by have := HFL.out; rw [← HLb.out, rows_length] at this; exact this
      obtain ⟨nb, hnb⟩ : ∃ n, Lb.length = n := ⟨_, rfl⟩
      rw [hnb] at hfl
      have hLb' : ∀ W, Agree (Ex (.slice p5 L.length c5) X) w5 W → IsRel W (.slice pb nb cb) Lb := fun W hW => by rw [← hnb]; exact hLb W hW
      rw [hnb]
      have HNB := Lib.hid hnb
      have HL5 := Lib.hid hLb'
      clear hLb hnb hLb' B5 H
      go_wp2
      go_loopg [5, 8] nb (fun g v5 vk wr => ∃ (k : Nat) (M : List RR), vk = .int .i64 k ∧ k ≤ nb ∧ nb - k ≤ g ∧ Hold 2 44 encR RowOk X wr w1.heap.size v5 (L ++ M) ∧ Hid (rows M = ((rows Lb).take k).map (consW y)) ∧ Hid (∀ W, Agree (Ex v5 X) wr W → IsRel W (.slice pb nb cb) Lb) ∧ Below w1.heap.size w1 wr)
      case atStart => exact ⟨0, [], rfl, Nat.zero_le _, Nat.le_refl _, by rw [List.append_nil]; exact H5, Lib.hid rfl, HL5, B⟩
      case round =>
        obtain ⟨k, M, rfl, hk, hgk, HM, VM, HLM, BM⟩ := hrel
        clear c0 c1 HL5 H5 B
        obtain ⟨N, hN⟩ : ∃ N, L ++ M = N := ⟨_, rfl⟩
        have HNM := Lib.hid hN
        rw [hN] at HM
        obtain ⟨p6, c6, rfl⟩ := HM.form
        have hNl : N.length + (nb - k) ≤ 100000 := by
          rw [← hN, List.length_append, ← rows_length M, VM.out, List.length_map, List.length_take, rows_length, HNB.out]; omega
        clear hN
        have c0 := cell_keep BM q0
        by_cases hlk : k < nb
        · have hlkz : (k : Int) < (nb : Int) := by omega
          obtain ⟨x, hx⟩ := getElem_of_lt (l := Lb) (i := k) (by have := HNB.out; omega)
          obtain ⟨b2, o2, e, d0, d1, rx⟩ := (HLM.out wr (Agree.refl _ _)).at_ hx
          cases e
          have htr := HT.out wr (Agree.of_below BM)
          obtain ⟨bv, ov, ev, f0, f1, f2⟩ := vals_at' htr.vals HY.out
          rw [ev] at c0
          unfold strV at f2
          have hex : ∀ k, Ex (.slice p6 N.length c6) X k → k < wr.heap.size := fun k hk => by
            rcases hk with hk | hk
            · exact (HM.1.lt k hk).2
            · exact Nat.lt_of_lt_of_le (HX1.out k hk) BM.size
          have HEX6 := Lib.hid hex
          have HRX := Lib.hid (show ∀ W, Agree (Ex (.slice p6 N.length c6) X) wr W → RowOk W x from fun W hW => (HLM.out W hW).2 x (List.mem_of_getElem? hx))
          have hbM : w1.heap.size ≤ wr.heap.size := BM.size
          have hxl : x.t.length ≤ 1000 := by have := HTL.out x.rw (by rw [← HLb.out]; exact List.mem_map_of_mem (List.mem_of_getElem? hx)); have : x.t.length = n := this; omega
          have VN := Lib.hid (fun (r : RR) (h : r.rw = consW y x.rw) => show rows (M ++ [r]) = ((rows Lb).take (k + 1)).map (consW y) from by
            rw [rows_append, VM.out, take_succ' (rows_at hx), List.map_append]
            show _ ++ [r.rw] = _ ++ [consW y x.rw]
            rw [h])
          have HXX := Lib.hid hx
          clear hx htr hex
          have HALL : ∀ W, Below wr.heap.size wr W → (fun w' => w'.cell? ⟨b3, 0, none⟩ = some (.slice (some ⟨bv, ov, none⟩) nv t.cv) ∧ w'.cell? ⟨bv, ov + i * 3, none⟩ = some (.int .i64 y.t) ∧ w'.cell? ⟨bv, ov + i * 3 + 1, none⟩ = some (.int .i64 y.n) ∧ w'.cell? ⟨bv, ov + i * 3 + 2, none⟩ = some (.string ⟨y.s.toArray⟩) ∧ w'.cell? ⟨b2, o2 + k * 2, none⟩ = some x.av ∧ w'.cell? ⟨b2, o2 + k * 2 + 1, none⟩ = some x.wv) W := fun W hW => ⟨cell_keep hW c0, cell_keep hW f0, cell_keep hW f1, cell_keep hW f2, cell_keep hW d0, cell_keep hW d1⟩
          have HS10 : ∀ (W : World), Below w1.heap.size w1 W → ∀ {v' : Value}, (∀ W', Agree (Ex v' X) W W' → IsRel W' (.slice (some ⟨b2, o2, none⟩) nb cb) Lb) → (fun w' => w'.cell? ⟨b3, 0, none⟩ = some (.slice (some ⟨bv, ov, none⟩) nv t.cv) ∧ w'.cell? ⟨bv, ov + i * 3, none⟩ = some (.int .i64 y.t) ∧ w'.cell? ⟨bv, ov + i * 3 + 1, none⟩ = some (.int .i64 y.n) ∧ w'.cell? ⟨bv, ov + i * 3 + 2, none⟩ = some (.string ⟨y.s.toArray⟩) ∧ w'.cell? ⟨b2, o2 + k * 2, none⟩ = some x.av ∧ w'.cell? ⟨b2, o2 + k * 2 + 1, none⟩ = some x.wv) W := fun W hW v' hR => by
            have c0' := cell_keep hW q0
            rw [ev] at c0'
            obtain ⟨bv', ov', ev', f0', f1', f2'⟩ := vals_at' (HT.out W (Agree.of_below hW)).vals HY.out
            rw [ev] at ev'
            injection ev' with ev'
            injection ev' with e1 e2
            subst e1 e2
            obtain ⟨b2', o2', e', d0', d1', -⟩ := (hR W (Agree.refl _ _)).at_ HXX.out
            injection e' with e'
            injection e' with e1 e2
            subst e1 e2
            exact ⟨c0', f0', f1', f2', d0', d1'⟩
          clear d0 d1 f0 f1 f2 c0 q0 q1
          go_upto_region 11 with fail
          try simp only [List.append_eq, List.cons_append, List.nil_append]
          refine wp_region_noPanic ?_
          refine wp_region_late (fun w' => w'.cell? ⟨b3, 0, none⟩ = some (.slice (some ⟨bv, ov, none⟩) nv t.cv) ∧ w'.cell? ⟨bv, ov + i * 3, none⟩ = some (.int .i64 y.t) ∧ w'.cell? ⟨bv, ov + i * 3 + 1, none⟩ = some (.int .i64 y.n) ∧ w'.cell? ⟨bv, ov + i * 3 + 2, none⟩ = some (.string ⟨y.s.toArray⟩) ∧ w'.cell? ⟨b2, o2 + k * 2, none⟩ = some x.av ∧ w'.cell? ⟨b2, o2 + k * 2 + 1, none⟩ = some x.wv) 22 (by kernel_rfl) (HALL _ (Below.refl _ _).drew) (fun _ => ?_)
          obtain ⟨wd, hwd⟩ : ∃ x : World, wr.drew = x := ⟨_, rfl⟩
          have bD : Below wr.heap.size wr wd := by rw [← hwd]; exact (Below.refl _ _).drew
          rw [hwd]
          clear hwd
          have hHeld := HALL _ bD
          have bL := below_new wd (.cells #[.int .i64 y.t, .int .i64 y.n, .string ⟨y.s.toArray⟩] 58)
          have hO1 : Owns 3 58 encVl (wd.alloc (.cells #[.int .i64 y.t, .int .i64 y.n, .string ⟨y.s.toArray⟩] 58)) wd.heap.size (.slice (some ⟨wd.heap.size, 0, none⟩) 1 1) [y] := Owns.lits wd [y] encsV (by simp [maxLen])
          have rxl := (rx.keep bD).keep bL
          refine any_take (by kernel_rfl) (i := 0) (oi := _) (v := ?_) rfl rfl (by kernel_rfl) (by kernel_rfl) (by kernel_rfl) (fun _ _ _ h => h) (Or.inl ⟨by rfl, ?_⟩) hHeld ?_
          rotate_left
          · intro w' hSw; try dsimp only at hSw
            go_simp
            try with_reducible rfl
          try simp only [puts, gets]
          refine any_take (by kernel_rfl) (i := 1) (oi := _) (v := ?_) rfl rfl (by kernel_rfl) (by kernel_rfl) (by kernel_rfl) (fun _ _ _ h => h) (Or.inl ⟨by rfl, ?_⟩) hHeld ?_
          rotate_left
          · intro w' hSw; try dsimp only at hSw
            go_simp
            try with_reducible rfl
          try simp only [puts, gets]
          refine any_take (by kernel_rfl) (i := 2) (oi := _) (v := ?_) rfl rfl (by kernel_rfl) (by kernel_rfl) (by kernel_rfl) (fun _ _ _ h => h) (Or.inl ⟨by rfl, ?_⟩) hHeld ?_
          rotate_left
          · intro w' hSw; try dsimp only at hSw
            go_simp
            try with_reducible rfl
          try simp only [puts, gets]
          refine any_take (by kernel_rfl) (i := 3) (oi := _) (v := ?_) rfl rfl (by kernel_rfl) (by kernel_rfl) (by kernel_rfl) (fun _ _ _ h => h) (Or.inl ⟨by rfl, ?_⟩) hHeld ?_
          rotate_left
          · intro w' hSw; try dsimp only at hSw
            go_simp
            try with_reducible rfl
          try simp only [puts, gets]
          refine any_take (by kernel_rfl) (i := 4) (oi := _) (v := ?_) rfl rfl (by kernel_rfl) (by kernel_rfl) (by kernel_rfl) (fun _ _ _ h => h) (Or.inl ⟨by rfl, ?_⟩) hHeld ?_
          rotate_left
          · intro w' hSw; try dsimp only at hSw
            go_simp
            try with_reducible rfl
          try simp only [puts, gets]
          refine any_take (by kernel_rfl) (i := 5) (oi := _) (v := ?_) rfl rfl (by kernel_rfl) (by kernel_rfl) (by kernel_rfl) (fun _ _ _ h => h) (Or.inl ⟨by rfl, ?_⟩) hHeld ?_
          rotate_left
          · intro w' hSw; try dsimp only at hSw
            go_simp
            try with_reducible rfl
          try simp only [puts, gets]
          refine any_take (by kernel_rfl) (i := 7) (oi := _) (v := ?_) rfl rfl (by kernel_rfl) (by kernel_rfl) (by kernel_rfl) (fun _ _ _ h => h) (Or.inl ⟨by rfl, ?_⟩) hHeld ?_
          rotate_left
          · intro w' hSw; try dsimp only at hSw
            go_simp
            try with_reducible rfl
          try simp only [puts, gets]
          refine any_take (by kernel_rfl) (i := 8) (oi := _) (v := ?_) rfl rfl (by kernel_rfl) (by kernel_rfl) (by kernel_rfl) (fun _ _ _ h => h) (Or.inl ⟨by rfl, ?_⟩) hHeld ?_
          rotate_left
          · intro w' hSw; try dsimp only at hSw
            go_simp
            try with_reducible rfl
          try simp only [puts, gets]
          refine any_take (by kernel_rfl) (i := 9) (oi := _) (v := ?_) rfl rfl (by kernel_rfl) (by kernel_rfl) (by kernel_rfl) (fun _ _ _ h => h) (Or.inl ⟨by rfl, ?_⟩) hHeld ?_
          rotate_left
          · intro w' hSw; try dsimp only at hSw
            go_simp
            try with_reducible rfl
          try simp only [puts, gets]
          refine any_take (by kernel_rfl) (i := 10) (oi := _) (v := ?_) rfl rfl (by kernel_rfl) (by kernel_rfl) (by kernel_rfl) (fun _ _ _ h => h) (Or.inl ⟨by rfl, ?_⟩) hHeld ?_
          rotate_left
          · intro w' hSw; try dsimp only at hSw
            go_simp
            try with_reducible rfl
          try simp only [puts, gets]
          refine any_take (by kernel_rfl) (i := 11) (oi := _) (v := ?_) rfl rfl (by kernel_rfl) (by kernel_rfl) (by kernel_rfl) (fun _ _ _ h => h) (Or.inl ⟨by rfl, ?_⟩) hHeld ?_
          rotate_left
          · intro w' hSw; try dsimp only at hSw
            go_simp
            try with_reducible rfl
          try simp only [puts, gets]
          refine any_take (by kernel_rfl) (i := 13) (oi := _) (v := ?_) rfl rfl (by kernel_rfl) (by kernel_rfl) (by kernel_rfl) (fun _ _ _ h => h) (Or.inl ⟨by rfl, ?_⟩) hHeld ?_
          rotate_left
          · intro w' hSw; try dsimp only at hSw
            go_simp
            try with_reducible rfl
          try simp only [puts, gets]
          refine any_take (by kernel_rfl) (i := 14) (oi := _) (v := ?_) rfl rfl (by kernel_rfl) (by kernel_rfl) (by kernel_rfl) (fun _ _ _ h => h) (Or.inl ⟨by rfl, ?_⟩) hHeld ?_
          rotate_left
          · intro w' hSw; try dsimp only at hSw
            go_simp
            try with_reducible rfl
          try simp only [puts, gets]
          refine any_take (by kernel_rfl) (i := 15) (oi := _) (v := ?_) rfl rfl (by kernel_rfl) (by kernel_rfl) (by kernel_rfl) (fun _ _ _ h => h) (Or.inl ⟨by rfl, ?_⟩) hHeld ?_
          rotate_left
          · intro w' hSw; try dsimp only at hSw
            go_simp
            try with_reducible rfl
          try simp only [puts, gets]
          refine any_take (by kernel_rfl) (i := 16) (oi := _) (v := ?_) rfl rfl (by kernel_rfl) (by kernel_rfl) (by kernel_rfl) (fun _ _ _ h => h) (Or.inl ⟨by rfl, ?_⟩) hHeld ?_
          rotate_left
          · intro w' hSw; try dsimp only at hSw
            go_simp
            try with_reducible rfl
          try simp only [puts, gets]
          refine any_take (by kernel_rfl) (i := 17) (oi := _) (v := ?_) rfl rfl (by kernel_rfl) (by kernel_rfl) (by kernel_rfl) (fun _ _ _ h => h) (Or.inl ⟨by rfl, ?_⟩) hHeld ?_
          rotate_left
          · intro w' hSw; try dsimp only at hSw
            go_simp
            try with_reducible rfl
          try simp only [puts, gets]
          refine any_next (i := 6) (by kernel_rfl) rfl rfl (fun K hK => ?_)
          go_simp
          refine hK.out _ _ ?_ (fun hHeld => ?_)
          · exact HALL _ (bD.trans (bL.mono bD.size))
          clear hK K
          try simp only [puts, gets]
          refine any_next (i := 12) (by kernel_rfl) rfl rfl (fun K hK => ?_)
          refine step_own (wr := wd.alloc (.cells #[.int .i64 y.t, .int .i64 y.n, .string ⟨y.s.toArray⟩] 58)) (v := .slice (some ⟨wd.heap.size, 0, none⟩) 1 1) fitsV encsV (by rfl) (.tmp 43) (.tmp 48) (by rfl) (by rfl) (by rfl) hO1 (Below.refl _ _) rxl.1 (by rw [World.size_alloc]; omega) (by simp) (by omega) ?_
          intro p9 c9 w9 H9 B9 hG9 hU9
          have BN : Below wr.heap.size wr w9 := bD.trans ((bL.trans B9).mono bD.size)
          have H9' : Owns 3 58 encVl w9 wr.heap.size (.slice p9 (x.t.length + 1) c9) ([y] ++ x.t) := by
            rw [show ([y] ++ x.t).length = x.t.length + 1 from by simp] at H9
            exact H9.mono bD.size
          rw [show ([y] ++ x.t).length = x.t.length + 1 from by simp]
          have bM := below_new w9 (.cells #[.slice p9 (x.t.length + 1) c9, x.wv] 44)
          have hm9 : IsRows 2 encR (w9.alloc (.cells #[.slice p9 (x.t.length + 1) c9, x.wv] 44)) (.slice (some ⟨w9.heap.size, 0, none⟩) 1 1) [(⟨p9, c9, [y] ++ x.t, x.pw, x.cw, x.s⟩ : RR)] := by
            have := IsRows.lit (e := 44) w9 [(⟨p9, c9, [y] ++ x.t, x.pw, x.cw, x.s⟩ : RR)] encsR (by simp)
            simpa [encR, RR.av] using this
          have hmo := row_off HRX.out HEX6.out BN H9' hxl
          refine hK.out _ _ ?_ (fun hHeld => ?_)
          · exact HALL _ BN
          clear hK K
          try simp only [puts, gets]
          refine any_take (by kernel_rfl) (i := 18) (oi := _) (v := ?_) rfl rfl (by kernel_rfl) (by kernel_rfl) (by kernel_rfl) (fun _ _ _ h => h) (Or.inl ⟨by rfl, ?_⟩) hHeld ?_
          rotate_left
          · intro w' hSw; try dsimp only at hSw
            go_simp
            try with_reducible rfl
          try simp only [puts, gets]
          refine any_next (i := 19) (by kernel_rfl) rfl rfl (fun K hK => ?_)
          go_simp
          refine hK.out _ _ ?_ (fun hHeld => ?_)
          · exact HALL _ (BN.trans (bM.mono BN.size))
          clear hK K
          try simp only [puts, gets]
          refine any_next (i := 20) (by kernel_rfl) rfl rfl (fun K hK => ?_)
          refine step_holdU (wr := wr) (v := .slice p6 N.length c6) fitsR24 encsR (by rfl) (.tmp 37) (.tmp 56) (by rfl) (by rfl) (by rfl) HM (BN.trans (bM.mono BN.size)) hm9 (hmo _ bM) hbM (by omega) (by simp) ?_
          intro p10 c10 w10 H10 B10 hG10 hU10
          rw [show (N ++ [(⟨p9, c9, [y] ++ x.t, x.pw, x.cw, x.s⟩ : RR)]).length = N.length + 1 from by simp] at H10 hU10
          rw [show (N ++ [(⟨p9, c9, [y] ++ x.t, x.pw, x.cw, x.s⟩ : RR)]).length = N.length + 1 from by simp]
          have HL10 := Lib.hid (off_next HLM.out (BN.trans (bM.mono BN.size)) hG10 hU10)
          have B11 := BM.trans B10
          refine hK.out _ _ ?_ (fun hHeld => ?_)
          · exact HS10 _ B11 HL10.out
          clear hK K
          try simp only [puts, gets]
          refine any_take (by kernel_rfl) (i := 21) (oi := _) (v := ?_) rfl rfl (by kernel_rfl) (by kernel_rfl) (by kernel_rfl) (fun _ _ _ h => h) (Or.inl ⟨by rfl, ?_⟩) hHeld ?_
          rotate_left
          · intro w' hSw; try dsimp only at hSw
            go_simp
            try with_reducible rfl
          try simp only [puts, gets]
          refine any_done (by kernel_rfl) ?_ _
          refine NoPanic.normal ?_
          have V10 := Lib.hid (VN.out (⟨p9, c9, [y] ++ x.t, x.pw, x.cw, x.s⟩ : RR) rfl)
          have H11 : Hold 2 44 encR RowOk X w10 w1.heap.size (.slice p10 (N.length + 1) c10) (L ++ (M ++ [(⟨p9, c9, [y] ++ x.t, x.pw, x.cw, x.s⟩ : RR)])) := by rw [← List.append_assoc, HNM.out]; exact H10
          clear H10 hG10 hU10 hmo hm9 bM BN hG9 hU9 H9 H9' B9 hHeld HALL HS10 bL hO1 rxl
          go_wp2
          try rw [← ev]
          go_roundg (nb - (k + 1))
          case measure => omega
          case rel => exact ⟨k + 1, _, by go_num, hlk, Nat.le_refl _, H11, V10, HL10, B11⟩
        · have hlkz : ¬ (k : Int) < (nb : Int) := by omega
          have V2 := Lib.hid (HN.out M (by rw [VM.out, List.take_of_length_le (by rw [rows_length, HNB.out]; omega), HLb.out]))
          rw [← HNM.out] at HM
          go_wp2
          try rw [← ek]
          go_roundg (nv - (i + 1))
          case measure => omega
          case rel => exact ⟨i + 1, L ++ M, by go_num, hlt, Nat.le_refl _, by rw [← HNM.out] at *; exact HM, V2, BM⟩
    · have hltz : ¬ (i : Int) < (nv : Int) := by omega
      have RES := Lib.hid (show rows L = walkL (n + 1) [] t.tr by
        rw [V.out, List.take_of_length_le (by rw [List.length_zip, TR.tr_vs, HNV.out]; omega)]
        exact HWC.out)
      have hLl : L.length ≤ 100000 := by rw [← rows_length, RES.out]; exact HLN.out
      have HF := Lib.hid (show ∀ W, Agree X wr W → IsRel W (.slice p5 L.length c5) L from fun W hW => (H.agree hW HX1.out).rel (by omega))
      clear H
      go_wp2
      go_ret
      exact ⟨p5, c5, L, rfl, HF.out, RES, below_trans HB.out B⟩
theorem rrows_all : ∀ n : Nat, RowsC n
  | 0 => rrows_zero
  | n + 1 => rrows_succ n (rrows_all n)
end Go.Proofs.YtdibijhaiaiifaaDoor
/- The walks of the reference's Rows and Fitting. -/
namespace Go.Proofs.YtdibijhaiaiifaaDoor
open Go.RowKit
set_option maxHeartbeats 4000000 in
set_option maxRecDepth 1000000 in
theorem rTRows_any (columns : Int) (t : TR) (w : World) (ht : TrOk w t) (hl : Lim t.tr) (hr : (rowsT columns t.tr).length ≤ 100000) :
    Calls Tryd.prog 63 #[.int .i64 columns, trV t] w fun e w' => ∃ u L, e = .returned u ∧ IsRel w' u L ∧ Hid (rows L = rowsT columns t.tr) ∧ Below w.heap.size w w' := by
  have hV := rTValid_any columns t
  obtain ⟨v, hv⟩ : ∃ v, validC columns t.tr = v := ⟨_, rfl⟩
  obtain ⟨e, he⟩ : ∃ e, emptyB t.tr = e := ⟨_, rfl⟩
  have hE := fun W => rEmpty_any t W
  rw [he] at hE
  rw [hv] at hV
  have HV := Lib.hid hv
  have HE := Lib.hid he
  unfold trV at hV hE
  have BA := below_new w (.cells #[t.vv, t.kv, t.wv] 64)
  have X := Cel.new w 64 [t.vv, t.kv, t.wv]
  obtain ⟨wA, hwA⟩ : ∃ z, w.alloc (.cells #[t.vv, t.kv, t.wv] 64) = z := ⟨_, rfl⟩
  rw [hwA] at X BA
  have q0 := X.at_ (j := 0) rfl
  have q1 := X.at_ (j := 1) rfl
  have q2 := X.at_ (j := 2) rfl
  clear hv he
  unfold trV
  go_enter Tryd.func63, Tryd.ntmps63
  go_upto_region 1 with fail
  clear hwA
  obtain ⟨b3, hb3⟩ : ∃ b, w.heap.size = b := ⟨_, rfl⟩
  have BA' := BA
  rw [hb3] at q0 q1 q2
  rw [hb3]
  go_wp2_with fail
  refine (hV wA (ht.keep BA) hl).mono ?_
  rintro e1 w1 ⟨rfl, B1⟩
  replace q0 := cell_keep B1 q0
  replace q1 := cell_keep B1 q1
  replace q2 := cell_keep B1 q2
  have BB := below_trans BA B1
  cases v with
  | false =>
    have RES := Lib.hid (show rowsT columns t.tr = [] by unfold rowsT; rw [HV.out]; rfl)
    have BC := BB.trans ((below_new w1 (.cells #[] 44)).mono BB.size)
    have hI : IsRel (w1.alloc (.cells #[] 44)) (.slice (some ⟨w1.heap.size, 0, none⟩) 0 0) [] := ⟨IsRows.lit w1 [] encsR (by simp), by simp⟩
    clear hV hE
    go_wp2
    go_ret
    exact ⟨_, [], rfl, hI, Lib.hid (by rw [RES.out]; rfl), BC⟩
  | true =>
    go_wp2_with fail
    refine (hE w1).mono ?_
    rintro e2 w2 ⟨rfl, B2⟩
    replace q0 := cell_keep B2 q0
    replace q1 := cell_keep B2 q1
    replace q2 := cell_keep B2 q2
    have BC := below_trans BB B2
    cases e with
    | true =>
      have RES := Lib.hid (show rowsT columns t.tr = [] by unfold rowsT; rw [HV.out, HE.out]; rfl)
      have BD := BC.trans ((below_new w2 (.cells #[] 44)).mono BC.size)
      have hI : IsRel (w2.alloc (.cells #[] 44)) (.slice (some ⟨w2.heap.size, 0, none⟩) 0 0) [] := ⟨IsRows.lit w2 [] encsR (by simp), by simp⟩
      clear hV hE
      go_wp2
      go_ret
      exact ⟨_, [], rfl, hI, Lib.hid (by rw [RES.out]; rfl), BD⟩
    | false =>
      have RES : rowsT columns t.tr = walkL columns.toNat [] t.tr := by unfold rowsT; rw [HV.out, HE.out]; rfl
      have hc : 0 ≤ columns ∧ columns ≤ 4 := by
        have := HV.out
        unfold validC at this
        split at this
        · assumption
        · cases this
      have hvt : validT columns.toNat t.tr = true := by
        have := HV.out
        unfold validC at this
        rwa [if_pos hc] at this
      rw [RES] at hr
      obtain ⟨n, rfl⟩ : ∃ n : Nat, columns = n := ⟨columns.toNat, by omega⟩
      rw [Int.toNat_natCast] at hvt hr RES
      have hW := rrows_all n noB t w2 (fun k hk => hk.elim) (fun W hW => (ht.keep BC).keep (hW.below (Nat.le_refl _) fun k hk => hk.elim)) hvt hl hr (by omega)
      have HRES := Lib.hid RES
      unfold trV at hW
      clear hV hE RES hr hc hvt
      go_wp2_with fail
      refine hW.mono ?_
      rintro e3 w3 ⟨p, c, L, rfl, HI, HL, B3⟩
      have HI2 := HI w3 (Agree.refl _ _)
      clear HI
      go_wp2
      go_ret
      exact ⟨_, L, rfl, HI2, Lib.hid (by rw [HRES.out]; exact HL.out), below_trans BC B3⟩
theorem keeps_empty {w W : World} {G : Nat} {e : TypeId} {fr : Nat × Nat} {X : Nat → Prop} (hG : w.heap[G]? = some (.cells #[] e fr)) (hX : ∀ k, X k → k = G) (hA : Agree X w W) : Keeps w W := fun p v hc => by
  refine hA.cell hc fun hx => ?_
  have hp := hX _ hx
  obtain ⟨b, off, spot⟩ := p
  have hp : b = G := hp
  subst hp
  unfold World.cell? at hc
  simp [hG] at hc
theorem IsRel.keeps {w W : World} {v : Value} {xs : List RR} (h : IsRel w v xs) (hk : Keeps w W) : IsRel W v xs :=
  ⟨IsRows.keep h.1 hk, fun x hx => ⟨IsRows.keep (h.2 x hx).1 hk, IsSpans.of_rows (IsRows.keep (h.2 x hx).2.rows hk)⟩⟩
/-- What Fitting returns. -/
def FitRet (columns : Int) (xs : List RR) (w : World) (e : Ending) (w' : World) : Prop := ∃ p c ys zs, e = .returned (.slice p (List.length ys) c) ∧ IsRel w' (.slice p ys.length c) ys ∧ CanOf xs zs ∧ Hid (rows ys = (rows zs).filter fun x => decide ((x.1.length : Int) = columns)) ∧ Below w.heap.size w w'
set_option maxHeartbeats 4000000 in
set_option maxRecDepth 1000000 in
theorem Fitting_any (va : Value) (columns : Int) (xs : List RR) (w : World) (ha : IsRel w va xs) (sa : Sml 10000 xs) :
    Calls Tryd.prog 103 #[.int .i64 columns, va] w (FitRet columns xs w) := by
  have hC := rOfR_any va xs
  obtain ⟨pa, pc, rfl, -⟩ := id ha.shape
  have HSA := Lib.hid sa
  clear sa
  go_enter Tryd.func103, Tryd.ntmps103
  go_upto_region 2 with fail
  have B0 := below_new w (.cells #[] 44)
  have hG0 : (w.alloc (.cells #[] 44)).heap[w.heap.size]? = some (.cells #[] 44 (0, 0)) := heap_alloc_new w _
  have H0 : Hold 2 44 encR RowOk noB (w.alloc (.cells #[] 44)) w.heap.size (.slice (some ⟨w.heap.size, 0, none⟩) 0 0) [] := ⟨Owns.lit w, by simp⟩
  obtain ⟨w1, hw1⟩ : ∃ z, w.alloc (.cells #[] 44) = z := ⟨_, rfl⟩
  rw [hw1] at H0 B0 hG0
  rw [hw1]
  have HPZ := Lib.hid hG0
  clear hG0
  obtain ⟨pz, hpz⟩ : ∃ p : Option Addr, some ⟨w.heap.size, 0, none⟩ = p := ⟨_, rfl⟩
  have HPE := Lib.hid hpz
  rw [hpz] at H0
  rw [hpz]
  clear hw1 hpz
  go_wp2_with fail
  refine (hC w1 (ha.keep B0) HSA.out).mono ?_
  rintro e1 w2 ⟨u, rfl, zs, hz, HZ, B1⟩
  clear hC ha
  have HZS := Lib.hid HZ
  have HOFF := Lib.hid (show ∀ W, Agree (Ex (.slice pz 0 0) noB) w2 W → IsRel W u zs from fun W hW => hz.keeps (keeps_empty (block_keep HPZ.out B1) (fun k hk => by
    rcases hk with hk | hk
    · rw [← HPE.out] at hk
      injection hk with hk
      exact hk.symm
    · exact hk.elim) hW))
  have H1 := H0.keep B1
  have BB := below_trans B0 B1
  have hzl : zs.length ≤ 10000 := (HZ.sml _ HSA.out).len
  clear HZ H0 B0 B1 HPZ HPE
  obtain ⟨pu, cu, rfl, -⟩ := id hz.shape
  obtain ⟨nz, hnz⟩ : ∃ n, zs.length = n := ⟨_, rfl⟩
  rw [hnz] at HOFF hzl
  rw [hnz]
  have HNZ := Lib.hid hnz
  clear hnz hz
  go_wp2
  go_loopg [5, 7] nz (fun g v5 vi wr => ∃ (i : Nat) (L : List RR), vi = .int .i64 i ∧ i ≤ nz ∧ nz - i ≤ g ∧ Hold 2 44 encR RowOk noB wr w.heap.size v5 L ∧ Hid (rows L = ((rows zs).take i).filter fun x => decide ((x.1.length : Int) = columns)) ∧ Hid (∀ W, Agree (Ex v5 noB) wr W → IsRel W (.slice pu nz cu) zs) ∧ Below w.heap.size w wr)
  case atStart => exact ⟨0, [], rfl, Nat.zero_le _, Nat.le_refl _, H1, Lib.hid rfl, HOFF, BB⟩
  case round =>
    obtain ⟨i, L, rfl, hi, hg, H, V, HO, B⟩ := hrel
    clear H1 HOFF BB
    obtain ⟨p5, c5, rfl⟩ := H.form
    have hLl : L.length ≤ i := by
      rw [← rows_length L, V.out]
      exact Nat.le_trans (List.length_filter_le _ _) (by rw [List.length_take]; omega)
    by_cases hlt : i < nz
    · have hltz : (i : Int) < (nz : Int) := by omega
      obtain ⟨x, hx⟩ := getElem_of_lt (l := zs) (i := i) (by have := HNZ.out; omega)
      obtain ⟨b2, o2, e, d0, d1, rx⟩ := (HO.out wr (Agree.refl _ _)).at_ hx
      cases e
      have HRX := Lib.hid (show ∀ W, Agree (Ex (.slice p5 L.length c5) noB) wr W → RowOk W x from fun W hW => (HO.out W hW).2 x (List.mem_of_getElem? hx))
      have VN := Lib.hid (show ∀ q, decide ((x.t.length : Int) = columns) = q → ((rows zs).take (i + 1)).filter (fun x => decide ((x.1.length : Int) = columns)) = rows L ++ (if q then [x.rw] else []) from fun q hq => by
        rw [take_succ' (rows_at hx), List.filter_append, V.out, List.filter_cons]
        show _ ++ (if decide ((x.t.length : Int) = columns) = true then _ else _) = _
        rw [hq]
        cases q <;> rfl)
      clear hx rx
      by_cases hc : (x.t.length : Int) = columns
      · have hcb : ((x.t.length : Int) == columns) = true := by rw [beq_iff_eq]; exact hc
        have V2 := Lib.hid (VN.out true (decide_eq_true hc))
        have bX := below_new wr (.cells #[x.av, x.wv] 44)
        have hm : IsRows 2 encR (wr.alloc (.cells #[x.av, x.wv] 44)) (.slice (some ⟨wr.heap.size, 0, none⟩) 1 1) [x] := IsRows.lit wr [x] encsR (by simp)
        have hmo : ∀ u ∈ [x], Off RowOk (wr.alloc (.cells #[x.av, x.wv] 44)) (Ex (.slice p5 L.length c5) noB) u := fun u hu W hW => by
          rw [List.mem_singleton.1 hu]
          exact HRX.out W ((Agree.of_below bX).trans hW)
        clear hc VN
        go_wp2_with (at_builtin; refine wpList_holdU fitsR24 encsR rfl _ _ rfl rfl rfl H bX hm hmo B.size (by omega) (by simp) ?_; intro p9 c9 w9 H9 B9 hG9 hU9; rw [show (L ++ [x]).length = L.length + 1 from by simp] at H9 hU9)
        have HN := Lib.hid (off_next HO.out bX hG9 hU9)
        have B10 := B.trans B9
        clear H hm hmo bX hG9 hU9 B9 d0 d1
        go_roundg (nz - (i + 1))
        case measure => omega
        case rel => exact ⟨i + 1, L ++ [x], by go_num, hlt, Nat.le_refl _, H9, by rw [rows_append]; exact Lib.hid V2.out.symm, HN, B10⟩
      · have hcb : ((x.t.length : Int) == columns) = false := by rw [beq_eq_false_iff_ne]; exact hc
        have V2 := Lib.hid (VN.out false (decide_eq_false hc))
        clear hc VN
        go_wp2
        go_roundg (nz - (i + 1))
        case measure => omega
        case rel => exact ⟨i + 1, L, by go_num, hlt, Nat.le_refl _, H, by have := V2.out; simp only [Bool.false_eq_true, if_false, List.append_nil] at this; exact Lib.hid this.symm, HO, B⟩
    · have hltz : ¬ (i : Int) < (nz : Int) := by omega
      have RES := Lib.hid (show rows L = (rows zs).filter fun x => decide ((x.1.length : Int) = columns) by
        have := V.out
        rwa [List.take_of_length_le (by rw [rows_length, HNZ.out]; omega)] at this)
      have HR := H.rel (by omega)
      go_wp2
      go_ret
      exact ⟨p5, c5, L, zs, rfl, HR, HZS.out, RES, B⟩
end Go.Proofs.YtdibijhaiaiifaaDoor
