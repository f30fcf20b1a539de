/- The walk of the law SafetyMonotone. -/
import Derived.Test.YtnibgmmoebmnlaaAppB
import Derived.Test.YtnibgmmoebmnlaaWt
import Derived.Deep.RegionHeld3
import Derived.Deep.CutRange
namespace Go.Proofs.Ytnibgmmoebmnlaa
open Go.RowKit
theorem ofList_left {l m : List Nm} (x : Nm) (h : ofList l x = true) : ofList (l ++ m) x = true := by
  unfold ofList at *
  simp only [decide_eq_true_eq, List.mem_append] at *
  exact .inl h
theorem zs_get {L : List Nat} {i : Nat} {x : Int} (h : (zs L)[i]? = some x) : ∃ hi : i < L.length, x = (L[i] : Int) := by
  unfold zs at h
  rw [List.getElem?_map] at h
  obtain ⟨y, hy, rfl⟩ := Option.map_eq_some_iff.1 h
  obtain ⟨hi, e⟩ := List.getElem?_eq_some_iff.1 hy
  exact ⟨hi, by rw [e]⟩
theorem nat_sub {w : World} {base g n : Nat} {L : List Nat} (h : NatRow w base g n L) {lo hi : Nat} (hlo : lo ≤ hi) (hhi : hi ≤ n) (hn : n ≤ 1000) {a : Option Addr} (ha : lo < hi → a = some ⟨g, lo, none⟩) {d c : Nat} (hd : d = hi - lo) : IsInts w (.slice a d c) (zs ((L.take hi).drop lo)) := by
  have hl := h.1
  subst hd
  have e : (zs ((L.take hi).drop lo)).length = hi - lo := by rw [zs_length, List.length_drop, List.length_take]; omega
  rcases Nat.lt_or_ge lo hi with hlt | hge
  · obtain rfl := ha hlt
    refine ⟨_, c, by rw [e], .inr ⟨g, lo, rfl, fun i x hix j u hj => ?_⟩, by omega⟩
    have hj0 : j = 0 := by have := (List.getElem?_eq_some_iff.1 hj).1; simp [encI] at this; omega
    subst hj0
    obtain rfl : Value.int .i64 x = u := by simpa [encI] using hj
    obtain ⟨hi', rfl⟩ := zs_get hix
    have hi2 : lo + i < L.length := by simp at hi'; omega
    have hc := h.cell hi2
    rw [List.getElem_drop, List.getElem_take]
    simpa using hc
  · exact ⟨a, c, by rw [e], .inl (List.eq_nil_of_length_eq_zero (by omega)), by omega⟩
theorem names_alloc {w : World} {v : Value} {l : List Nm} {o : Obj} (h : IsNames w v l) : IsNames (w.alloc o) v l := h.keep (keeps_below (below_new w o))
theorem names_drew {w : World} {v : Value} {l : List Nm} (h : IsNames w v l) : IsNames w.drew v l := h
theorem names_step {w w' : World} {v : Value} {l : List Nm} (hb : Below w.heap.size w w') (h : IsNames w v l) : IsNames w' v l := h.keep (keeps_below hb)
theorem aft_ts {r : Rl} {v : Value} {l : List Nm} {vo : Value} {out : List Nat} {n : Nat} {w : World} {Q : Ending → World → Prop} (h : RuleOk w r) (hs : IsNames w v l) (ho : IsInts w vo (zs out)) (hf : Fits r) (hl : l.length ≤ 100) (hn : n ≤ out.length) (hn20 : n ≤ 20) (hout : ∀ i ∈ out, i < r.lits.length)
    (k : ∀ v' nl w', nl.length ≤ 1000 → Hid (ofList nl = aft (ofList l) r.lits (out.take n)) → IsNames w' v' nl → Below w.heap.size w w' → Q (.returned v') w') : Calls Try.prog 26 #[ruleV r, v, vo, .int .i64 n] w Q :=
  (after_any r v l vo out n w h hs ho hf hl hn hn20 hout).mono fun e w' ⟨v', nl, he, hnl, hof, hna, hb⟩ => by
    subst he; exact k v' nl w' (by omega) (Lib.hid hof) hna hb
theorem rd_ts {q : Lt} {v : Value} {nl : List Nm} {s : Nm → Bool} {b : Bool} {w : World} {Q : Ending → World → Prop} (h : LitOk w q) (hs : IsNames w v nl) (h6 : q.targs.length ≤ 6) (hl : nl.length ≤ 1000) (hof : Hid (ofList nl = s)) (hb : ready s q = b)
    (k : ∀ w', Below w.heap.size w w' → Q (.returned (.bool b)) w') : Calls Try.prog 27 #[litV q, v] w Q :=
  (ready1_any q v nl w h hs h6 hl).mono fun e w' ⟨he, h2⟩ => by
    subst he; rw [hof.out, hb]; exact k w' h2
section
variable {w0 w : World} {ops : Array Oper} {o : Oper} {a : Act} {K : Act → World → Prop} {Q : Exit → Act → World → Prop} {E : Prop}
/-- append(v, x...) -/
theorem app2_ts (hw : Region.wanted o (yielded ops a.tmps) = true) (s y : Operand) (ho : o.op = .call { callee := .builtin .append, args := #[s, y], argTypes := #[29, 29] }) (hb : Below w0.heap.size w0 w) {v : Value} {l : List Int}
    (hs : a.eval s = v) (hown : OwnInts w w0.heap.size v l) {x : Value} {m : List Int} (hx' : a.eval y = x) (hx : IsInts w x m) (hl : l.length + m.length ≤ 1000)
    (k : ∀ v' w', Below w0.heap.size w0 w' → OwnInts w' w0.heap.size v' (l ++ m) → K (a.put o.dst v') w') : if Region.wanted o (yielded ops a.tmps) = true then Oper.wp Try.prog o a w K Q else E := by
  obtain ⟨i1, hi', hz0', hz1', hz2'⟩ := info_parts info3'
  have hvo := own_from hown
  refine step_append_rows hw encI s y 29 ho w0.heap.size 3 i1 (.int .i64 0) 1 8 Try.underlying29 hi' hz0' hz1' hz2' rfl (by decide) v l.length (l.flatMap encI) hs hown _ m hx' hx (fun _ _ => rfl) (ints_oneCell m) (by unfold maxLen; omega) (by omega) hb.size ?_
  intro v' w' hown' hgrow _
  refine k v' w' (hb.grown hgrow hb.size (fun i hi => hvo i hi)) ?_
  unfold OwnInts
  simpa [List.flatMap_append] using hown'
end
set_option maxHeartbeats 4000000 in
set_option maxRecDepth 100000 in
theorem law6_any (r : Rl) (v : Value) (l : List Nm) (vm : Value) (m : List Nm) (vp : Value) (picks : List Nat) (a c : Int) (w : World) (h : RuleOk w r) (hs : IsNames w v l) (hm : IsNames w vm m) (hp : IsPicks w vp picks) (hpb : ∀ x ∈ picks, x < 256)
    (wa : (Lit.int .u8 a).wf = true) (wc : (Lit.int .u8 c).wf = true) :
    Calls Try.prog 6 #[ruleV r, v, vm, vp, .int .u8 a, .int .u8 c] w fun e w' => e = .returned (.bool true) ∧ Below w.heap.size w w' := by
  obtain ⟨a, rfl, ha⟩ : ∃ n : Nat, a = (n : Int) ∧ n < 256 := by
    simp [Lit.wf, IntKind.min, IntKind.max, IntKind.signed, IntKind.bits] at wa
    exact ⟨a.toNat, by omega, by omega⟩
  obtain ⟨c, rfl, hc⟩ : ∃ n : Nat, c = (n : Int) ∧ n < 256 := by
    simp [Lit.wf, IntKind.min, IntKind.max, IntKind.signed, IntKind.bits] at wc
    exact ⟨c.toNat, by omega, by omega⟩
  clear wa wc
  obtain ⟨i1, hi1, hz10, hz11, hz12⟩ := info_parts info9'
  obtain ⟨aa, ca, hargs, -, -⟩ := id h.1
  obtain ⟨ab, cb, hbody, hlits, -⟩ := id h.2.1
  have hok := h.2.2
  obtain ⟨rn, rp, ra, rt, rk, ren, rev, rei, rb, rl, rat⟩ := r
  dsimp only at hbody hargs hlits hok
  subst hbody hargs
  unfold ruleV
  obtain ⟨wb, hwb⟩ : ∃ x : World, x = w.alloc (.cells (ruleCells ⟨rn, rp, .slice aa rt.length ca, rt, rk, ren, rev, rei, .slice ab rl.length cb, rl, rat⟩) 27) := ⟨_, rfl⟩
  have b0 : Below w.heap.size w wb := by subst hwb; exact below_new _ _
  have hxR := fun w' (hb : Below wb.heap.size wb w') => ruleBox_at (w := w) (r := ⟨rn, rp, .slice aa rt.length ca, rt, rk, ren, rev, rei, .slice ab rl.length cb, rl, rat⟩) (w' := w') (by subst hwb; exact hb)
  unfold ruleCells at hwb
  dsimp only at hwb hxR
  go_enter Try.func6, Try.ntmps6
  go_wp2_with fail
  rw [← hwb]
  clear hwb
  refine (head_any _).mono ?_
  rintro e w1 ⟨rfl, b1⟩
  obtain ⟨r0, r1, r2, r3, r4, r5, r6, r7, r8⟩ := hxR _ b1
  have c1 := below_trans b0 b1
  go_wp2_with fail
  refine (Small_any ⟨rn, rp, .slice aa rt.length ca, rt, rk, ren, rev, rei, .slice ab rl.length cb, rl, rat⟩ _ (h.keep (keeps_below c1))).mono ?_
  rintro e w2 ⟨rfl, b2⟩
  have d2 := below_trans b1 b2
  have c2 := below_trans b0 d2
  cases hsm : small ⟨rn, rp, .slice aa rt.length ca, rt, rk, ren, rev, rei, .slice ab rl.length cb, rl, rat⟩
  · go_wp2
    go_ret
    exact ⟨rfl, c2⟩
  have hfit := small_fits hsm
  have hfit1 : rl.length ≤ 20 := hfit.1
  have hfit2 : ∀ q ∈ rl, q.targs.length ≤ 6 := hfit.2
  clear r0 r1 r2 r3 r4 r5 r6 r7 r8
  go_wp2_with fail
  refine (few_any v l _ (hs.keep (keeps_below c2))).mono ?_
  rintro e w3 ⟨rfl, b3⟩
  have d3 := below_trans d2 b3
  have c3 := below_trans b0 d3
  by_cases hfew : l.length ≤ 20
  case neg =>
    have hd : decide (l.length ≤ 20) = false := decide_eq_false hfew
    go_wp2
    go_ret
    exact ⟨rfl, c3⟩
  have hd : decide (l.length ≤ 20) = true := decide_eq_true hfew
  go_wp2_with fail
  refine (few_any vm m _ (hm.keep (keeps_below c3))).mono ?_
  clear hd
  rintro e w4 ⟨rfl, b4⟩
  have d4 := below_trans d3 b4
  have c4 := below_trans b0 d4
  by_cases hfew2 : m.length ≤ 20
  case neg =>
    have hd : decide (m.length ≤ 20) = false := decide_eq_false hfew2
    go_wp2
    go_ret
    exact ⟨rfl, c4⟩
  have hd : decide (m.length ≤ 20) = true := decide_eq_true hfew2
  have hl1 : l.length ≤ 1000 := by omega
  have hlm : (l ++ m).length ≤ 1000 := by simp; omega
  have hb12 : rl.length ≤ 1000 := by omega
  go_upto_region 4 with fail
  clear hd
  go_cut [14] from 38 to 43 (fun v14 wx => OwnNames wx w4.heap.size v14 (l ++ m) ∧ Below w4.heap.size w4 wx)
  case first =>
    have h0 : (w4.alloc (.cells #[] 9)).ownsRow w4.heap.size 9 1 (.slice (some ⟨w4.heap.size, 0, none⟩) 0 0) 0 [] := World.ownsRow_lit w4 #[] 0 (Nat.le_refl _) (by decide) rfl
    have g1 : Below w4.heap.size w4 (w4.alloc (.cells #[] 9)) := below_new _ _
    have hl' : IsNames (w4.alloc (.cells #[] 9)) v l := hs.keep (keeps_below (below_trans c4 g1))
    have n1 : ∀ y ∈ l, ∀ u ∈ encS y, u.oneCell' = true := fun y _ u hu => by simp [encS] at hu; subst hu; rfl
    have n2 : ∀ y ∈ m, ∀ u ∈ encS y, u.oneCell' = true := fun y _ u hu => by simp [encS] at hu; subst hu; rfl
    have q1 : 0 + l.length ≤ maxLen := by unfold maxLen; omega
    have q2 : (0 + l.length) * 16 ≤ 140737488355328 := by omega
    have q3 : 0 + l.length + m.length ≤ maxLen := by unfold maxLen; omega
    have q4 : (0 + l.length + m.length) * 16 ≤ 140737488355328 := by omega
    go_wp2_with (first
      | (at_builtin; refine wpList_append_rows rfl encS (.tmp 38) (.tmp 39) 28 rfl w4.heap.size 9 i1 (.string ⟨#[]⟩) 1 16 Try.underlying28 hi1 hz10 hz11 hz12 rfl (by decide) _ 0 [] rfl h0 v l rfl hl' (fun _ _ => rfl) n1 q1 q2 (by simp) ?_; intro v5 w5 hown5 hgrow5 _; have hm5 := hm.keep (keeps_below (below_trans c4 ((g1.grown hgrow5 (by simp) (own_from h0)))));
         have g5 : w4.heap.size ≤ w5.heap.size := (g1.grown hgrow5 (by simp) (own_from h0)).size)
      | (at_builtin; refine wpList_append_rows rfl encS (.tmp 40) (.tmp 41) 28 rfl w4.heap.size 9 i1 (.string ⟨#[]⟩) 1 16 Try.underlying28 hi1 hz10 hz11 hz12 rfl (by decide) v5 (0 + l.length) ([] ++ l.flatMap encS) rfl hown5 vm m rfl hm5 (fun _ _ => rfl) n2 q3 q4 g5 ?_; intro v6 w6 hown6 hgrow6 _))
    go_meet
    case rel =>
      refine ⟨?_, (g1.grown hgrow5 (by simp) (own_from h0)).grown hgrow6 g5 (own_from hown5)⟩
      unfold OwnNames
      have hh : w6.ownsRow w4.heap.size 9 1 v6 (l.length + m.length) (l.flatMap encS ++ m.flatMap encS) := by simpa using hown6
      simpa [List.flatMap_append] using hh
  case rest =>
    obtain ⟨hown, hb5⟩ := hcut
    obtain ⟨w5, rfl⟩ : ∃ x : World, x = wc := ⟨_, rfl⟩
    have d5 := below_trans d4 hb5
    have c5 := below_trans b0 d5
    have hall := hown.is (by omega)
    clear hown
    obtain ⟨r0, r1, r2, r3, r4, r5, r6, r7, r8⟩ := hxR _ d5
    go_wp2_with fail
    refine (Order_any ⟨rn, rp, .slice aa rt.length ca, rt, rk, ren, rev, rei, .slice ab rl.length cb, rl, rat⟩ v l _ (h.keep (keeps_below c5)) (hs.keep (keeps_below c5)) hfit hl1).mono ?_
    rintro e w6 ⟨⟨ve, rfl, hve⟩, b6⟩
    have d6 := below_trans d5 b6
    have c6 := below_trans b0 d6
    clear r0 r1 r2 r3 r4 r5 r6 r7 r8
    obtain ⟨r0, r1, r2, r3, r4, r5, r6, r7, r8⟩ := hxR _ d6
    go_wp2_with fail
    refine (Order_any ⟨rn, rp, .slice aa rt.length ca, rt, rk, ren, rev, rei, .slice ab rl.length cb, rl, rat⟩ u14 (l ++ m) _ (h.keep (keeps_below c6)) (hall.keep (keeps_below b6)) hfit hlm).mono ?_
    rintro e w7 ⟨⟨ve2, rfl, hve2⟩, b7⟩
    have d7 := below_trans d6 b7
    have c7 := below_trans b0 d7
    clear r0 r1 r2 r3 r4 r5 r6 r7 r8
    obtain ⟨r0, r1, r2, r3, r4, r5, r6, r7, r8⟩ := hxR _ d7
    obtain ⟨RA, hRA⟩ : ∃ x, orderR ⟨rn, rp, .slice aa rt.length ca, rt, rk, ren, rev, rei, .slice ab rl.length cb, rl, rat⟩ l = x := ⟨_, rfl⟩
    obtain ⟨RB, hRB⟩ : ∃ x, orderR ⟨rn, rp, .slice aa rt.length ca, rt, rk, ren, rev, rei, .slice ab rl.length cb, rl, rat⟩ (l ++ m) = x := ⟨_, rfl⟩
    rw [hRA] at hve ⊢
    rw [hRB] at hve2 ⊢
    obtain ⟨pa, qa⟩ := RA
    obtain ⟨pb, qb⟩ := RB
    dsimp only at hve hve2 ⊢
    have HRA := Lib.hid hRA
    have HRB := Lib.hid hRB
    clear hRA hRB
    go_upto_region 7 with fail
    go_cut [72] from 55 to 72 (fun v72 wx => v72 = .bool false ∧ Below w7.heap.size w7 wx)
    case first =>
      cases ho : order (ofList l) rl with
      | none =>
        have hq : (qa == 0) = false := by
          have := HRA.out
          simp only [orderR, ho, Prod.mk.injEq] at this
          rw [← this.2]; rfl
        clear ho
        go_wp2
        go_meet
        case rel => exact ⟨rfl, Below.refl _ _⟩
      | some out =>
        have hR := HRA.out
        simp only [orderR, ho, Prod.mk.injEq] at hR
        obtain ⟨hR1, hR2⟩ := hR
        have hev := (order_evaluable ho).1
        have hev2 : evaluable (ofList (l ++ m)) rl (zs out) = true := evaluable_mono (fun x hx => ofList_left x hx) hev
        obtain ⟨out2, ho2, hlen2, hless⟩ := order_least hev2
        have hR' := HRB.out
        simp only [orderR, ho2, Prod.mk.injEq] at hR'
        obtain ⟨hR1', hR2'⟩ := hR'
        have hq : (qa == 0) = true := by rw [← hR2]; rfl
        have hq' : (qb != 0) = false := by rw [← hR2']; rfl
        rw [← hR1] at hve
        rw [← hR1'] at hve2
        have HE := Lib.hid hev2
        have HL := Lib.hid hless
        clear hR1 hR2 hR1' hR2' ho ho2 hev hev2 hless hlen2
        go_wp2_with fail
        have hC := Evaluable_any ⟨rn, rp, .slice aa rt.length ca, rt, rk, ren, rev, rei, .slice ab rl.length cb, rl, rat⟩ u14 (l ++ m) _ (zs out) w7 (h.keep (keeps_below c7)) (hall.keep (keeps_below (below_trans b6 b7))) (hve.keep (keeps_below b7)) hfit hlm
        rw [HE.out] at hC
        refine hC.mono ?_
        rintro e w8 ⟨rfl, b8⟩
        go_wp2_with fail
        have hC2 := less_any _ _ (zs out) (zs out2) w8 (hve.keep (keeps_below (below_trans b7 b8))) (hve2.keep (keeps_below b8))
        rw [HL.out] at hC2
        refine hC2.mono ?_
        rintro e w9 ⟨rfl, b9⟩
        go_wp2
        go_meet
        case rel => exact ⟨rfl, below_trans b8 b9⟩
    case rest =>
      obtain ⟨rfl, hb8⟩ := hcut
      obtain ⟨w8, rfl⟩ : ∃ x : World, x = wc := ⟨_, rfl⟩
      have d8 := below_trans d7 hb8
      have c8 := below_trans b0 d8
      clear r0 r1 r2 r3 r4 r5 r6 r7 r8
      obtain ⟨r0, r1, r2, r3, r4, r5, r6, r7, r8⟩ := hxR _ d8
      go_wp2_with fail
      refine (permutation_any rl.length vp picks _ (hp.keep (keeps_below c8)) hpb hb12).mono ?_
      rintro e w9 ⟨g, L, rfl, hperm, hL, b9⟩
      have HP := Lib.hid hperm
      have hLl : L.length = rl.length := hL.1
      have hLt : ∀ i ∈ L, i < rl.length := fun i hi => by simpa using hperm.mem_iff.1 hi
      clear hperm
      have d9 := below_trans d8 b9
      have c9 := below_trans b0 d9
      clear r0 r1 r2 r3 r4 r5 r6 r7 r8
      by_cases hn0 : rl.length = 0
      · have hb0 : ((rl.length : Int) == 0) = true := by rw [hn0]; rfl
        clear hn0
        go_wp2
        go_ret
        exact ⟨rfl, c9⟩
      have hb0 : ((rl.length : Int) == 0) = false := by simp; intro e; exact hn0 (by rw [e]; rfl)
      obtain ⟨r0, r1, r2, r3, r4, r5, r6, r7, r8⟩ := hxR _ d9
      go_wp2_with fail
      refine (Evaluable_any ⟨rn, rp, .slice aa rt.length ca, rt, rk, ren, rev, rei, .slice ab rl.length cb, rl, rat⟩ v l _ (zs L) _ (h.keep (keeps_below c9)) (hs.keep (keeps_below c9)) (hL.is (by omega)) hfit hl1).mono ?_
      rintro e w10 ⟨rfl, b10⟩
      have d10 := below_trans d9 b10
      have c10 := below_trans b0 d10
      cases he : evaluable (ofList l) rl (zs L)
      · go_wp2
        go_ret
        exact ⟨rfl, c10⟩
      have HE := Lib.hid he
      clear he r0 r1 r2 r3 r4 r5 r6 r7 r8
      have hmod : ((a : Int).tmod (rl.length : Int)) = ((a % rl.length : Nat) : Int) := rfl
      have hil : a % rl.length < rl.length := Nat.mod_lt _ (by omega)
      obtain ⟨i, hi⟩ : ∃ y, a % rl.length = y := ⟨_, rfl⟩
      rw [hi] at hmod hil
      have hmod2 : ((c : Int).tmod ((i : Int) + 1)) = ((c % (i + 1) : Nat) : Int) := rfl
      have hkl : c % (i + 1) < i + 1 := Nat.mod_lt _ (by omega)
      obtain ⟨k, hk⟩ : ∃ y, c % (i + 1) = y := ⟨_, rfl⟩
      rw [hk] at hmod2 hkl
      clear hi hk
      have hiL : i < L.length := by omega
      have hkL : k ≤ L.length := by omega
      have hk20 : k ≤ 20 := by omega
      have hj := hLt L[i] (List.getElem_mem hiL)
      have hLi : IsInts w10 (.slice (some ⟨g, 0, none⟩) rl.length rl.length) (zs L) := (hL.is (by omega)).keep (keeps_below b10)
      have hcL := fun W (hW : Below w10.heap.size w10 W) => cell_keep (below_trans b10 hW) (hL.cell hiL)
      have hA := fun W (hW : Below w10.heap.size w10 W) => (nat_sub hL (Nat.zero_le k) (show k ≤ rl.length by omega) hb12 (a := some ⟨g, 0, none⟩) (d := k) (c := rl.length) (fun _ => rfl) rfl).keep (keeps_below (below_trans b10 hW))
      have hB := fun W (hW : Below w10.heap.size w10 W) => (nat_sub hL (show k ≤ i by omega) (show i ≤ rl.length by omega) hb12 (a := some ⟨g, k, none⟩) (d := i - k) (c := rl.length - k) (fun _ => rfl) rfl).keep (keeps_below (below_trans b10 hW))
      have hD := fun W (hW : Below w10.heap.size w10 W) (A : Option Addr) (hA' : i + 1 < rl.length → A = some ⟨g, i + 1, none⟩) => (nat_sub hL (show i + 1 ≤ rl.length by omega) (Nat.le_refl rl.length) hb12 (a := A) (d := rl.length - (i + 1)) (c := rl.length - (i + 1)) hA' rfl).keep (keeps_below (below_trans b10 hW))
      have hsplit : zs L = zs (L.take k) ++ zs ((L.take i).drop k) ++ [(L[i] : Int)] ++ zs (L.drop (i + 1)) := by
        rw [show [(L[i] : Int)] = zs [L[i]] from rfl, ← zs_append, ← zs_append, ← zs_append]
        congr 1
        have e1 : L.take k ++ (L.take i).drop k = L.take i := by
          rw [show L.take k = (L.take i).take k by rw [List.take_take, Nat.min_eq_left (by omega)], List.take_append_drop]
        rw [e1, List.append_assoc, List.singleton_append, ← List.drop_eq_getElem_cons hiL, List.take_append_drop]
      have HMV := Lib.hid (fun (hr : ready (aft (ofList l) rl (L.take k)) rl[L[i]] = true) => show evaluable (ofList l) rl (zs (L.take k) ++ [(L[i] : Int)] ++ zs ((L.take i).drop k) ++ zs (L.drop (i + 1))) = true from
        moved_eval (by rw [← hsplit]; exact HE.out) (fun hx => by rw [zs_toNat]; simpa using hr))
      rw [show (L.take rl.length) = L from List.take_of_length_le (by omega)] at hD
      simp only [List.drop_zero] at hA
      have hLa : (zs (L.take k)).length = k := by rw [zs_length, List.length_take]; omega
      have hLb : (zs ((L.take i).drop k)).length = i - k := by rw [zs_length, List.length_drop, List.length_take]; omega
      have hLc : (zs (L.drop (i + 1))).length = rl.length - (i + 1) := by rw [zs_length, List.length_drop]; omega
      clear hsplit HE
      obtain ⟨b', off, rfl, -⟩ := lits_at (hlits.keep (keeps_below c10)) (List.getElem?_eq_getElem hj)
      have HCS := fun w' (bb : Below w.heap.size w w') => lits_cells (hlits.keep (keeps_below bb)) (List.getElem?_eq_getElem hj)
      have hq := hok rl[L[i]] (List.getElem_mem hj)
      have hq6 := hfit2 rl[L[i]] (List.getElem_mem hj)
      generalize rl[L[i]] = q at *
      generalize L[i] = j at *
      have hqo := hq
      obtain ⟨pa, pc, hqa, -, hqm⟩ := hq
      obtain ⟨qk, qn, qp, qa, qt, qb, qe, ql, qo, qat⟩ := q
      dsimp only at *
      subst hqa
      have HS : ∀ W, Below w10.heap.size w10 W → (fun w' => w'.cell? ⟨w.heap.size, 0, none⟩ = some (.string rn.1) ∧ w'.cell? ⟨w.heap.size, 1, none⟩ = some (.int .i64 rp) ∧ w'.cell? ⟨w.heap.size, 2, none⟩ = some (.slice aa rt.length ca) ∧ w'.cell? ⟨w.heap.size, 3, none⟩ = some (.int .i64 rk) ∧ w'.cell? ⟨w.heap.size, 4, none⟩ = some (.string ren.1) ∧ w'.cell? ⟨w.heap.size, 5, none⟩ = some (.string rev.1) ∧ w'.cell? ⟨w.heap.size, 6, none⟩ = some (.int .i64 rei) ∧ w'.cell? ⟨w.heap.size, 7, none⟩ = some (.slice (some ⟨b', off, none⟩) rl.length cb) ∧ w'.cell? ⟨w.heap.size, 8, none⟩ = some (.int .i64 rat) ∧ w'.cell? ⟨g, i, none⟩ = some (.int .i64 (j : Int)) ∧ w'.cell? ⟨b', off + j * 9, none⟩ = some (.int .i64 qk) ∧ w'.cell? ⟨b', off + j * 9 + 1, none⟩ = some (.string qn.1) ∧ w'.cell? ⟨b', off + j * 9 + 2, none⟩ = some (.int .i64 qp) ∧ w'.cell? ⟨b', off + j * 9 + 3, none⟩ = some (.slice pa qt.length pc) ∧ w'.cell? ⟨b', off + j * 9 + 4, none⟩ = some (.string qb.1) ∧ w'.cell? ⟨b', off + j * 9 + 5, none⟩ = some (.string qe.1) ∧ w'.cell? ⟨b', off + j * 9 + 6, none⟩ = some (.int .i64 ql) ∧ w'.cell? ⟨b', off + j * 9 + 7, none⟩ = some (.int .i64 qo) ∧ w'.cell? ⟨b', off + j * 9 + 8, none⟩ = some (.int .i64 qat)) W := fun W hW => by
        obtain ⟨r0, r1, r2, r3, r4, r5, r6, r7, r8⟩ := hxR _ (below_trans d10 hW)
        exact ⟨r0, r1, r2, r3, r4, r5, r6, r7, r8, hcL W hW, HCS W (below_trans c10 hW)⟩
      dsimp only at HS
      have HR : ∀ W, Below w10.heap.size w10 W → RuleOk W ⟨rn, rp, .slice aa rt.length ca, rt, rk, ren, rev, rei, .slice (some ⟨b', off, none⟩) rl.length cb, rl, rat⟩ := fun W hW => h.keep (keeps_below (below_trans c10 hW))
      have HN : ∀ W, Below w10.heap.size w10 W → IsNames W v l := fun W hW => hs.keep (keeps_below (below_trans c10 hW))
      have HI : ∀ W, Below w10.heap.size w10 W → IsInts W (.slice (some ⟨g, 0, none⟩) rl.length rl.length) (zs L) := fun W hW => hLi.keep (keeps_below hW)
      have HQ : ∀ W, Below w10.heap.size w10 W → LitOk W ⟨qk, qn, qp, .slice pa qt.length pc, qt, qb, qe, ql, qo, qat⟩ := fun W hW => hqo.keep (keeps_below (below_trans c10 hW))
      have j1 : (i : Int) < rl.length := by omega
      have j2 : (j : Int) < rl.length := by omega
      have hl100 : l.length ≤ 100 := by omega
      obtain ⟨rdy, hrdy⟩ : ∃ b, ready (aft (ofList l) rl (L.take k)) ⟨qk, qn, qp, .slice pa qt.length pc, qt, qb, qe, ql, qo, qat⟩ = b := ⟨_, rfl⟩
      have HRY := Lib.hid hrdy
      clear hrdy
      go_wp2
      cases rdy
      all_goals
        go_region_held3 (fun w' => w'.cell? ⟨w.heap.size, 0, none⟩ = some (.string rn.1) ∧ w'.cell? ⟨w.heap.size, 1, none⟩ = some (.int .i64 rp) ∧ w'.cell? ⟨w.heap.size, 2, none⟩ = some (.slice aa rt.length ca) ∧ w'.cell? ⟨w.heap.size, 3, none⟩ = some (.int .i64 rk) ∧ w'.cell? ⟨w.heap.size, 4, none⟩ = some (.string ren.1) ∧ w'.cell? ⟨w.heap.size, 5, none⟩ = some (.string rev.1) ∧ w'.cell? ⟨w.heap.size, 6, none⟩ = some (.int .i64 rei) ∧ w'.cell? ⟨w.heap.size, 7, none⟩ = some (.slice (some ⟨b', off, none⟩) rl.length cb) ∧ w'.cell? ⟨w.heap.size, 8, none⟩ = some (.int .i64 rat) ∧ w'.cell? ⟨g, i, none⟩ = some (.int .i64 (j : Int)) ∧ w'.cell? ⟨b', off + j * 9, none⟩ = some (.int .i64 qk) ∧ w'.cell? ⟨b', off + j * 9 + 1, none⟩ = some (.string qn.1) ∧ w'.cell? ⟨b', off + j * 9 + 2, none⟩ = some (.int .i64 qp) ∧ w'.cell? ⟨b', off + j * 9 + 3, none⟩ = some (.slice pa qt.length pc) ∧ w'.cell? ⟨b', off + j * 9 + 4, none⟩ = some (.string qb.1) ∧ w'.cell? ⟨b', off + j * 9 + 5, none⟩ = some (.string qe.1) ∧ w'.cell? ⟨b', off + j * 9 + 6, none⟩ = some (.int .i64 ql) ∧ w'.cell? ⟨b', off + j * 9 + 7, none⟩ = some (.int .i64 qo) ∧ w'.cell? ⟨b', off + j * 9 + 8, none⟩ = some (.int .i64 qat))
          (first | exact HS _ (by with_reducible (repeat (first | assumption | exact Below.refl _ _ | refine below_alloc' ?_ | refine below_drew' ?_ | refine below_step (by assumption) ?_))))
          (first
            | (go_at_call 26; refine aft_ts (r := ⟨rn, rp, .slice aa rt.length ca, rt, rk, ren, rev, rei, .slice (some ⟨b', off, none⟩) rl.length cb, rl, rat⟩) (HR _ (by with_reducible (repeat (first | assumption | exact Below.refl _ _ | refine below_alloc' ?_ | refine below_drew' ?_ | refine below_step (by assumption) ?_)))) (HN _ (by with_reducible (repeat (first | assumption | exact Below.refl _ _ | refine below_alloc' ?_ | refine below_drew' ?_ | refine below_step (by assumption) ?_)))) (HI _ (by with_reducible (repeat (first | assumption | exact Below.refl _ _ | refine below_alloc' ?_ | refine below_drew' ?_ | refine below_step (by assumption) ?_)))) hfit hl100 hkL hk20 hLt ?_; intro vN nl wN hnl HOF hNN bN)
            | (go_at_call 27; refine rd_ts (q := ⟨qk, qn, qp, .slice pa qt.length pc, qt, qb, qe, ql, qo, qat⟩) (HQ _ (by with_reducible (repeat (first | assumption | exact Below.refl _ _ | refine below_alloc' ?_ | refine below_drew' ?_ | refine below_step (by assumption) ?_)))) (by with_reducible (repeat (first | exact hNN | apply names_alloc | apply names_drew | (apply names_step; assumption)))) hq6 hnl HOF HRY.out ?_; intro wG bG))
      case false =>
        all_goals
          go_wp2
          go_ret
          exact ⟨rfl, below_trans c10 (by with_reducible (repeat (first | assumption | exact Below.refl _ _ | refine below_alloc' ?_ | refine below_drew' ?_ | refine below_step (by assumption) ?_)))⟩
      case true =>
        all_goals
          obtain ⟨w11, hw11⟩ : ∃ x : World, x = wG := ⟨_, rfl⟩
          have b11 : Below w10.heap.size w10 w11 := by rw [hw11]; exact (by with_reducible (repeat (first | assumption | exact Below.refl _ _ | refine below_alloc' ?_ | refine below_drew' ?_ | refine below_step (by assumption) ?_)))
          rw [← hw11]
          clear hw11 bN bG
          have c11 := below_trans c10 b11
          have HA : ∀ W, Below w11.heap.size w11 W → IsInts W (.slice (some ⟨g, 0, none⟩) k rl.length) (zs (L.take k)) := fun W hW => hA W (below_trans b11 hW)
          have HC : ∀ W, Below w11.heap.size w11 W → (fun w' => w'.cell? ⟨g, i, none⟩ = some (.int .i64 (j : Int))) W := fun W hW => hcL W (below_trans b11 hW)
          dsimp only at HC
          have hz1 : (zs (L.take k)).length ≤ 1000 := by omega
          have hz2 : (zs (L.take k)).length + [(j : Int)].length ≤ 1000 := by simp only [List.length_singleton]; omega
          have k1 : (k : Int) ≤ rl.length := by omega
          have k2 : (0 : Int) ≤ k := by omega
          go_wp2
          go_cut [22] from 115 to 125 (fun v22 wx => OwnInts wx w11.heap.size v22 (zs (L.take k) ++ [(j : Int)]) ∧ Below w11.heap.size w11 wx)
          case first =>
            go_region_held3 (fun w' => w'.cell? ⟨g, i, none⟩ = some (.int .i64 (j : Int)))
              (first | exact HC _ (by with_reducible (repeat (first | assumption | exact Below.refl _ _ | refine below_alloc' ?_ | refine below_drew' ?_ | refine below_step (by assumption) ?_))))
              (first
                | (refine app0_ts (w0 := w11) rfl (.tmp 115) (.tmp 118) rfl (by with_reducible (repeat (first | assumption | exact Below.refl _ _ | refine below_alloc' ?_ | refine below_drew' ?_ | refine below_step (by assumption) ?_))) rfl (by with_reducible (repeat (first | exact blk0_new (by with_reducible (repeat (first | assumption | exact Below.refl _ _ | refine below_alloc' ?_ | refine below_drew' ?_ | refine below_step (by assumption) ?_))) (by simp <;> contradiction) | apply blk_alloc | apply blk_drew | (apply blk_step; assumption)))) rfl (HA _ (by with_reducible (repeat (first | assumption | exact Below.refl _ _ | refine below_alloc' ?_ | refine below_drew' ?_ | refine below_step (by assumption) ?_)))) hz1 ?_; intro vX wX bX hoX hfX)
                | (refine app1_ts (w0 := w11) (v := vX) (l := zs (L.take k)) (m := [(j : Int)]) rfl (.tmp 119) (.tmp 124) rfl (by with_reducible (repeat (first | assumption | exact Below.refl _ _ | refine below_alloc' ?_ | refine below_drew' ?_ | refine below_step (by assumption) ?_))) rfl (by with_reducible (repeat (first | exact hoX | apply own_alloc | apply own_drew | (apply own_step; assumption)))) rfl (by with_reducible (repeat (first | exact blk1_new (by with_reducible (repeat (first | assumption | exact Below.refl _ _ | refine below_alloc' ?_ | refine below_drew' ?_ | refine below_step (by assumption) ?_))) (by simp <;> contradiction) | (refine hfX _ _ (by simp) ?_) | apply blk_alloc | apply blk_drew | (apply blk_step; assumption)))) rfl hz2 ?_; intro vY wY bY hoY))
            all_goals
              go_wp2_with fail
              go_meet
              case rel => exact ⟨(by with_reducible (repeat (first | exact hoY | apply own_alloc | apply own_drew | (apply own_step; assumption)))), (by with_reducible (repeat (first | assumption | exact Below.refl _ _ | refine below_alloc' ?_ | refine below_drew' ?_ | refine below_step (by assumption) ?_)))⟩
          case rest =>
            obtain ⟨hoY, b12⟩ := hcut
            obtain ⟨w12, rfl⟩ : ∃ x : World, x = wc := ⟨_, rfl⟩
            have c12 := below_trans c11 b12
            have hz3 : (zs (L.take k) ++ [(j : Int)]).length + (zs ((L.take i).drop k)).length ≤ 1000 := by rw [List.length_append, List.length_singleton]; omega
            have hz4 : (zs (L.take k) ++ [(j : Int)] ++ zs ((L.take i).drop k)).length + (zs (L.drop (i + 1))).length ≤ 1000 := by rw [List.length_append, List.length_append, List.length_singleton]; omega
            have HB : ∀ W, Below w11.heap.size w11 W → IsInts W (.slice (some ⟨g, k, none⟩) (i - k) (rl.length - k)) (zs ((L.take i).drop k)) := fun W hW => hB W (below_trans b11 hW)
            have HD : ∀ W, Below w11.heap.size w11 W → ∀ (A : Option Addr), (i + 1 < rl.length → A = some ⟨g, i + 1, none⟩) → IsInts W (.slice A (rl.length - (i + 1)) (rl.length - (i + 1))) (zs (L.drop (i + 1))) := fun W hW => hD W (below_trans b11 hW)
            have k3 : (k : Int) ≤ i := by omega
            have k4 : (i : Int) ≤ rl.length := by omega
            have k5 : (i : Int) + 1 ≤ rl.length := by omega
            have hwi : IntKind.i64.wrap (↑i + 1) = ↑i + 1 := IntWalk.i64_in _ (by omega)
            have hti : ((i : Int) + 1).toNat = i + 1 := by omega
            have k6 : (0 : Int) ≤ (i : Int) + 1 := by omega
            have hkn : ¬ (rl.length = k) := by omega
            go_wp2
            go_cut [22] from 126 to 136 (fun v22 wx => OwnInts wx w11.heap.size v22 (zs (L.take k) ++ [(j : Int)] ++ zs ((L.take i).drop k) ++ zs (L.drop (i + 1))) ∧ Below w11.heap.size w11 wx)
            case first =>
              obtain ⟨A, hsl, hA'⟩ : ∃ A, sliced (some ⟨g, 0, none⟩) (i + 1) rl.length rl.length 1 = .slice A (rl.length - (i + 1)) (rl.length - (i + 1)) ∧ (i + 1 < rl.length → A = some ⟨g, i + 1, none⟩) := by
                by_cases hlast : rl.length = i + 1
                · exact ⟨some ⟨g, 0, none⟩, by simp [sliced, hlast], fun h => by omega⟩
                · exact ⟨some ⟨g, i + 1, none⟩, by simp [sliced, Addr.add, hlast], fun _ => rfl⟩
              have hrun := fun (W : World) => (run_slice_l (P := Try.prog) (w := W) 29 (some ⟨g, 0, none⟩) rl.length rl.length (by kernel_rfl) .i64 ((i : Int) + 1) k6 k5)
              rw [hti] at hrun
              have hsz : ∀ W : World, (sizeOf (Try.prog.elem 29)).run Try.prog W = .ok 1 W := fun W => by kernel_rfl
              have hrun2 : ∀ (W : World), (Instr.slice 29 (.slice (some ⟨g, 0, none⟩) rl.length rl.length) (some (.int .i64 ((i : Int) + 1))) none none).run Try.prog W = .ok (.slice A (rl.length - (i + 1)) (rl.length - (i + 1))) W := fun W => by
                rw [hrun, hsz]
                simp only [Result.andThen, hsl]
              have HA' := Lib.hid hA'
              clear hsl hA' hrun hsz
              go_region_held3 (fun _ => True)
                (first | trivial)
                (first
                  | (refine app2_ts (w0 := w11) (v := u22) (l := zs (L.take k) ++ [(j : Int)]) (m := zs ((L.take i).drop k)) rfl (.tmp 126) (.tmp 130) rfl (by with_reducible (repeat (first | assumption | exact Below.refl _ _ | refine below_alloc' ?_ | refine below_drew' ?_ | refine below_step (by assumption) ?_))) rfl (by with_reducible (repeat (first | exact hoY | apply own_alloc | apply own_drew | (apply own_step; assumption)))) rfl (HB _ (by with_reducible (repeat (first | assumption | exact Below.refl _ _ | refine below_alloc' ?_ | refine below_drew' ?_ | refine below_step (by assumption) ?_)))) hz3 ?_; intro vZ wZ bZ hoZ)
                  | (refine app2_ts (w0 := w11) (v := vZ) (l := zs (L.take k) ++ [(j : Int)] ++ zs ((L.take i).drop k)) (m := zs (L.drop (i + 1))) rfl (.tmp 131) (.tmp 135) rfl (by with_reducible (repeat (first | assumption | exact Below.refl _ _ | refine below_alloc' ?_ | refine below_drew' ?_ | refine below_step (by assumption) ?_))) rfl (by with_reducible (repeat (first | exact hoZ | apply own_alloc | apply own_drew | (apply own_step; assumption)))) rfl (HD _ (by with_reducible (repeat (first | assumption | exact Below.refl _ _ | refine below_alloc' ?_ | refine below_drew' ?_ | refine below_step (by assumption) ?_))) _ HA'.out) hz4 ?_; intro vU wU bU hoU))
              all_goals
                go_wp2_with fail
                go_meet
                case rel => exact ⟨(by with_reducible (repeat (first | exact hoU | apply own_alloc | apply own_drew | (apply own_step; assumption)))), (by with_reducible (repeat (first | assumption | exact Below.refl _ _ | refine below_alloc' ?_ | refine below_drew' ?_ | refine below_step (by assumption) ?_)))⟩
            case rest =>
              obtain ⟨hoU, b13⟩ := hcut
              obtain ⟨w13, rfl⟩ : ∃ x : World, x = wc := ⟨_, rfl⟩
              have c13 := below_trans c11 b13
              obtain ⟨r0, r1, r2, r3, r4, r5, r6, r7, r8⟩ := hxR _ (below_trans d10 (below_trans b11 b13))
              have hz5 : (zs (L.take k) ++ [(j : Int)] ++ zs ((L.take i).drop k) ++ zs (L.drop (i + 1))).length ≤ 9223372036854775807 := by rw [List.length_append]; omega
              have hE := Evaluable_any ⟨rn, rp, .slice aa rt.length ca, rt, rk, ren, rev, rei, .slice (some ⟨b', off, none⟩) rl.length cb, rl, rat⟩ v l _ _ w13 (h.keep (keeps_below c13)) (hs.keep (keeps_below c13)) (hoU.is hz5) hfit hl1
              rw [HMV.out HRY.out] at hE
              go_wp2_with fail
              refine hE.mono ?_
              rintro e w14 ⟨rfl, b14⟩
              go_wp2
              go_ret
              exact ⟨rfl, below_trans c13 b14⟩
end Go.Proofs.Ytnibgmmoebmnlaa
