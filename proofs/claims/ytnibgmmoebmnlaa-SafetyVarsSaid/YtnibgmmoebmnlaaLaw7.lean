/- The walk of the law SafetyArrangement. -/
import Derived.Test.YtnibgmmoebmnlaaLaw4
import Derived.Test.YtnibgmmoebmnlaaPlainB
import Derived.Deep.RegionHeld3
import Derived.Deep.CutRange
namespace Go.Proofs.Ytnibgmmoebmnlaa
open Go.RowKit
theorem info58' : (Try.prog.info? 58).map (fun i => (i.zero, i.size, i.bytes)) = some (some (.agg #[.int .i64 0, .string ⟨#[]⟩, .int .i64 0, .slice none 0 0, .string ⟨#[]⟩, .string ⟨#[]⟩, .int .i64 0, .int .i64 0, .int .i64 0]), 9, 112) := by kernel_rfl
def OwnLits (w : World) (base : Nat) (v : Value) (l : List Lt) : Prop := w.ownsRow base 58 9 v l.length (l.flatMap encL)
/-- The box of the rule q: its body is vq. -/
def QBox (w : World) (G : Nat) (c : Value → Array Value) (vq : Value) : Prop := w.heap[G]? = some (.cells (c vq) 27 (0, 0))
theorem QBox.kept {w w' : World} {G : Nat} {c : Value → Array Value} {vq : Value} {row : Option Nat} (h : QBox w G c vq) (hg : w.grownBy w' row) (hne : some G ≠ row) : QBox w' G c vq :=
  (hg.block G (Array.getElem?_eq_some_iff.1 h).1 hne).trans h
theorem QBox.cell {w : World} {G : Nat} {c : Value → Array Value} {vq : Value} (h : QBox w G c vq) (j : Nat) : w.cell? ⟨G, j, none⟩ = (c vq)[j]? := cell_of_row w G j _ 27 (0, 0) h
theorem QBox.frozen {w : World} {G : Nat} {c : Value → Array Value} {vq : Value} (h : QBox w G c vq) (j : Nat) : w.frozen? ⟨G, j, none⟩ = false := by
  unfold QBox at h
  simp [World.frozen?, h]
theorem QBox.set {w : World} {G : Nat} {c : Value → Array Value} {vq u : Value} (h : QBox w G c vq) (hc : (c vq).setIfInBounds 7 u = c u) : QBox (w.setCell ⟨G, 7, none⟩ u) G c u := by
  unfold QBox
  rw [← hc]
  exact heap_setCell_same w G 7 _ 27 u h
theorem OwnLits.len {w : World} {base : Nat} {v : Value} {l : List Lt} (h : OwnLits w base v l) : ∃ a c, v = .slice a l.length c := by
  rcases h.2 with ⟨rfl, h0⟩ | ⟨g, cap, cur, hv, _⟩
  · exact ⟨none, 0, by rw [h0]⟩
  · exact ⟨_, _, hv⟩
theorem chk_one {q r : Rl} (h : safeP q = safeP r) : (chk [q]).length = (chk [r]).length := by
  cases hs : safeP r <;> simp [chk, h, hs]
theorem rules_alloc {w : World} {v : Value} {l : List Rl} {o : Obj} (h : IsRules w v l) : IsRules (w.alloc o) v l := h.keep (keeps_below (below_new w o))
theorem rules_drew {w : World} {v : Value} {l : List Rl} (h : IsRules w v l) : IsRules w.drew v l := h
theorem rules_step {w w' : World} {v : Value} {l : List Rl} (hb : Below w.heap.size w w') (h : IsRules w v l) : IsRules w' v l := h.keep (keeps_below hb)
theorem ck_one {r : Rl} {n : Nat} {w : World} {Q : Ending → World → Prop} (h : IsRules w (.slice (some ⟨n, 0, none⟩) 1 1) [r]) (hf : Fits r)
    (k : ∀ a c w', Below w.heap.size w w' → Q (.returned (.slice a (chk [r]).length c)) w') : Calls Try.prog 22 #[.agg #[.slice none 0 0, .slice none 0 0, .slice none 0 0, .slice (some ⟨n, 0, none⟩) 1 1]] w Q :=
  (Check_any ⟨.slice none 0 0, .slice none 0 0, .slice none 0 0, .slice (some ⟨n, 0, none⟩) 1 1, [r]⟩ w h (fun x hx => by
    have : x = r := by simpa using hx
    rw [this]; exact hf)).mono fun e w' ⟨⟨v, he, h1⟩, h2⟩ => by
    subst he
    obtain ⟨a, c, e, _⟩ := h1
    rw [e]; exact k a c w' h2
set_option maxHeartbeats 4000000 in
set_option maxRecDepth 100000 in
theorem law7_any (r : Rl) (vp : Value) (picks : List Nat) (w : World) (h : RuleOk w r) (hp : IsPicks w vp picks) (hpb : ∀ x ∈ picks, x < 256) :
    Calls Try.prog 7 #[ruleV r, vp] w fun e w' => e = .returned (.bool true) ∧ Below w.heap.size w w' := by
  obtain ⟨aa, ca, hargs, -, -⟩ := id h.1
  obtain ⟨ab, cb, hbody, hlits, -⟩ := id h.2.1
  have hok := h.2.2
  obtain ⟨rn, rp, ra, rt, rk, ren, rev, rei, rb, rl, rat⟩ := r
  dsimp only at hbody hargs hlits hok
  subst hbody hargs
  unfold ruleV
  obtain ⟨wb, hwb⟩ : ∃ x : World, x = w.alloc (.cells (ruleCells ⟨rn, rp, .slice aa rt.length ca, rt, rk, ren, rev, rei, .slice ab rl.length cb, rl, rat⟩) 27) := ⟨_, rfl⟩
  have b0 : Below w.heap.size w wb := by subst hwb; exact below_new _ _
  have hxR := fun w' (hb : Below wb.heap.size wb w') => ruleBox_at (w := w) (r := ⟨rn, rp, .slice aa rt.length ca, rt, rk, ren, rev, rei, .slice ab rl.length cb, rl, rat⟩) (w' := w') (by subst hwb; exact hb)
  unfold ruleCells at hwb
  dsimp only at hwb hxR
  go_enter Try.func7, Try.ntmps7
  go_wp2_with fail
  rw [← hwb]
  clear hwb
  refine (head_any _).mono ?_
  rintro e w1 ⟨rfl, b1⟩
  obtain ⟨r0, r1, r2, r3, r4, r5, r6, r7, r8⟩ := hxR _ b1
  have c1 := below_trans b0 b1
  go_wp2_with fail
  refine (Small_any ⟨rn, rp, .slice aa rt.length ca, rt, rk, ren, rev, rei, .slice ab rl.length cb, rl, rat⟩ _ (h.keep (keeps_below c1))).mono ?_
  rintro e w2 ⟨rfl, b2⟩
  have d2 := below_trans b1 b2
  have c2 := below_trans b0 d2
  cases hsm : small ⟨rn, rp, .slice aa rt.length ca, rt, rk, ren, rev, rei, .slice ab rl.length cb, rl, rat⟩
  · go_wp2
    go_ret
    exact ⟨rfl, c2⟩
  have hfit := small_fits hsm
  have hfit1 : rl.length ≤ 20 := hfit.1
  clear r0 r1 r2 r3 r4 r5 r6 r7 r8
  obtain ⟨r0, r1, r2, r3, r4, r5, r6, r7, r8⟩ := hxR _ d2
  go_wp2_with fail
  refine (permutation_any rl.length vp picks _ (hp.keep (keeps_below c2)) hpb (by omega)).mono ?_
  rintro e w3 ⟨g, L, rfl, hperm, hL, b3⟩
  have HP := Lib.hid hperm
  have hLl : L.length = rl.length := hL.1
  have hLt : ∀ i ∈ L, i < rl.length := fun i hi => by simpa using hperm.mem_iff.1 hi
  clear hperm
  have d3 := below_trans d2 b3
  have c3 := below_trans b0 d3
  clear r0 r1 r2 r3 r4 r5 r6 r7 r8
  obtain ⟨r0, r1, r2, r3, r4, r5, r6, r7, r8⟩ := hxR _ d3
  go_wp2
  obtain ⟨i0, hi, hz0, hz1, hz2⟩ := info_parts info58'
  have hq0 : QBox (w3.alloc (.cells #[.string rn.1, .int .i64 rp, .slice aa rt.length ca, .int .i64 rk, .string ren.1, .string rev.1, .int .i64 rei, .slice none 0 0, .int .i64 rat] 27)) w3.heap.size (fun u => #[.string rn.1, .int .i64 rp, .slice aa rt.length ca, .int .i64 rk, .string ren.1, .string rev.1, .int .i64 rei, u, .int .i64 rat]) (.slice none 0 0) := heap_alloc_new w3 _
  have b34 := below_new w3 (.cells #[.string rn.1, .int .i64 rp, .slice aa rt.length ca, .int .i64 rk, .string ren.1, .string rev.1, .int .i64 rei, .slice none 0 0, .int .i64 rat] 27)
  have s3 := d3.size
  have hfit2 : ∀ q ∈ rl, q.targs.length ≤ 6 := hfit.2
  clear r0 r1 r2 r3 r4 r5 r6 r7 r8
  go_loopw [8] (fun iv wr => ∃ k : Nat, k ≤ rl.length ∧ iv = .int .i64 k ∧ ∃ (vq : Value) (qs : List Lt), Hid (qs = (L.take k).filterMap fun i => rl[i]?) ∧ qs.length = k ∧ OwnLits wr (w3.heap.size + 1) vq qs ∧ QBox wr w3.heap.size (fun u => #[.string rn.1, .int .i64 rp, .slice aa rt.length ca, .int .i64 rk, .string ren.1, .string rev.1, .int .i64 rei, u, .int .i64 rat]) vq ∧ Below w3.heap.size w3 wr) (fun iv _ => rl.length - (intOf iv).toNat)
  case atStart => exact ⟨0, by simp, rfl, _, [], Lib.hid (by simp), rfl, World.ownsRow_nil _ _ _ _, hq0, b34⟩
  case round =>
    obtain ⟨k, hk, rfl, vq, qs, HQ, hql, hown, hbox, hb⟩ := hrel
    subst hql
    have dW := below_trans d3 hb
    have cW := below_trans b0 dW
    by_cases hlt : qs.length < rl.length
    · have hkL : qs.length < L.length := by omega
      have cL := cell_keep hb (hL.cell hkL)
      have hjl := hLt L[qs.length] (List.getElem_mem hkL)
      obtain ⟨b', off, rfl, c0, c1, c2, c3, c4, c5, c6, c7, c8⟩ := lits_at (hlits.keep (keeps_below cW)) (List.getElem?_eq_getElem hjl)
      have hq := hok rl[L[qs.length]] (List.getElem_mem hjl)
      have HT := Lib.hid (show (L.take (qs.length + 1)).filterMap (fun i => rl[i]?) = qs ++ [rl[L[qs.length]]] by
        rw [List.take_succ_eq_append_getElem hkL, List.filterMap_append, ← HQ.out]
        simp [List.getElem?_eq_getElem hjl])
      generalize rl[L[qs.length]] = q at *
      generalize L[qs.length] = j at *
      obtain ⟨pa, pc, hqa, -, hqm⟩ := hq
      obtain ⟨qk, qn, qp, qa, qt, qb, qe, ql, qo, qat⟩ := q
      dsimp only at *
      subst hqa
      obtain ⟨-, -, -, -, -, -, -, r7, -⟩ := hxR _ dW
      have hG7 : wr.cell? ⟨w3.heap.size, 7, none⟩ = some vq := hbox.cell 7
      have g1 : (qs.length : Int) < rl.length := by omega
      have g2 : (j : Int) < rl.length := by omega
      have hbs := hb.size
      have hbxl : w3.heap.size < wr.heap.size := (Array.getElem?_eq_some_iff.1 hbox).1
      have hvo := own_from hown
      have hn1 : qs.length + 1 ≤ maxLen := by unfold maxLen; omega
      have hn2 : (qs.length + 1) * 112 ≤ 140737488355328 := by omega
      have ho7 := World.ownsRow.alloc (World.ownsRow.drew hown) (.cells #[.int .i64 qk, .string qn.1, .int .i64 qp, .slice pa qt.length pc, .string qb.1, .string qe.1, .int .i64 ql, .int .i64 qo, .int .i64 qat] 58)
      have bxd : Below wr.heap.size wr (wr.drew.alloc (.cells #[.int .i64 qk, .string qn.1, .int .i64 qp, .slice pa qt.length pc, .string qb.1, .string qe.1, .int .i64 ql, .int .i64 qo, .int .i64 qat] 58)) := (Below.refl _ _).drew.alloc (Nat.le_refl _) _
      have hbxa : QBox (wr.drew.alloc (.cells #[.int .i64 qk, .string qn.1, .int .i64 qp, .slice pa qt.length pc, .string qb.1, .string qe.1, .int .i64 ql, .int .i64 qo, .int .i64 qat] 58)) w3.heap.size (fun u => #[.string rn.1, .int .i64 rp, .slice aa rt.length ca, .int .i64 rk, .string ren.1, .string rev.1, .int .i64 rei, u, .int .i64 rat]) vq := hbox.kept (grown_none bxd none) (by simp)
      have hB5 : ∀ w5, (wr.drew.alloc (.cells #[.int .i64 qk, .string qn.1, .int .i64 qp, .slice pa qt.length pc, .string qb.1, .string qe.1, .int .i64 ql, .int .i64 qo, .int .i64 qat] 58)).grownBy w5 vq.ownBlock → QBox w5 w3.heap.size (fun u => #[.string rn.1, .int .i64 rp, .slice aa rt.length ca, .int .i64 rk, .string ren.1, .string rev.1, .int .i64 rei, u, .int .i64 rat]) vq := fun w5 hg => hbxa.kept hg (fun e => by have := hvo _ e.symm; omega)
      go_wp2
      go_region_law (refine step_append_lies _ rfl (.tmp 28) (.tmp 37) 25 rfl (w3.heap.size + 1) 58 i0 (.agg #[.int .i64 0, .string ⟨#[]⟩, .int .i64 0, .slice none 0 0, .string ⟨#[]⟩, .string ⟨#[]⟩, .int .i64 0, .int .i64 0, .int .i64 0]) 9 112 Try.underlying25 hi hz0 hz1 hz2 rfl (by decide) _ _ _ rfl ho7 ⟨wr.heap.size, 0, none⟩ 1 1 [.int .i64 qk, .string qn.1, .int .i64 qp, .slice pa qt.length pc, .string qb.1, .string qe.1, .int .i64 ql, .int .i64 qo, .int .i64 qat] rfl rfl (World.news_of_block (heap_alloc_new wr.drew _)) (by simp [Value.oneCell']) (by decide) hn1 hn2 (by simp; omega) _ rfl ?_; intro gg cap w5 hown' hgrow hg1 hg2; have hbx5 := hB5 w5 hgrow; have x5 : w5.cell? ⟨w3.heap.size, 7, none⟩ = some vq := hbx5.cell 7; have f5 := hbx5.frozen 7)
      all_goals
        have hs5 := hgrow.size
        simp at hs5
        have g6 := grown_setCell w5 ⟨w3.heap.size, 7, none⟩ (.slice (some ⟨gg, 0, none⟩) (qs.length + 1) cap)
        have hgl : gg ≠ w3.heap.size := by
          rcases hg1 with hg1 | hg1
          · have := hvo _ hg1; omega
          · simp at hg1; omega
        have ho8 := World.ownsRow.kept hown' g6 (Or.inr (by simp [Value.ownBlock]; exact hgl))
        have hbx6 := hbx5.set (u := .slice (some ⟨gg, 0, none⟩) (qs.length + 1) cap) rfl
        have hb6 := ((hb.trans (bxd.mono hbs)).grown hgrow (by simp; omega) (fun i hi => by have := hvo i hi; omega)).grown g6 (by omega) (by simp)
        go_wp2
        go_roundw
        case rel =>
          refine ⟨qs.length + 1, by omega, by go_num, _, qs ++ [⟨qk, qn, qp, .slice pa qt.length pc, qt, qb, qe, ql, qo, qat⟩], Lib.hid HT.out.symm, by simp, ?_, hbx6, ?_⟩
          · unfold OwnLits
            have := ho8
            simpa [List.flatMap_append, encL] using this
          · first | exact hb6 | exact hb6.drew
        case measure => simp [intOf]; omega
    · have he : qs.length = rl.length := by omega
      have hqs : qs = L.filterMap fun i => rl[i]? := by
        have := HQ.out
        rw [List.take_of_length_le (by omega)] at this
        exact this
      obtain ⟨av, cv, rfl⟩ := hown.len
      have hql : IsLits wr (.slice av qs.length cv) qs := ⟨IsRows.of_owns hown (fun _ _ => rfl) (by omega), fun x hx => by
        rw [hqs, List.mem_filterMap] at hx
        obtain ⟨i, _, hi⟩ := hx
        exact (hok x (List.mem_of_getElem? hi)).keep (keeps_below cW)⟩
      have hRr : RuleOk wr ⟨rn, rp, .slice aa rt.length ca, rt, rk, ren, rev, rei, .slice ab rl.length cb, rl, rat⟩ := h.keep (keeps_below cW)
      have hRq : RuleOk wr ⟨rn, rp, .slice aa rt.length ca, rt, rk, ren, rev, rei, .slice av qs.length cv, qs, rat⟩ := ⟨hRr.1, hql⟩
      have hfq : Fits ⟨rn, rp, .slice aa rt.length ca, rt, rk, ren, rev, rei, .slice av qs.length cv, qs, rat⟩ := ⟨by show qs.length ≤ 20; omega, fun x hx => by
        have hx : x ∈ qs := hx
        rw [hqs, List.mem_filterMap] at hx
        obtain ⟨i, _, hi⟩ := hx
        exact hfit2 x (List.mem_of_getElem? hi)⟩
      have hsp : safeP ⟨rn, rp, .slice aa rt.length ca, rt, rk, ren, rev, rei, .slice av qs.length cv, qs, rat⟩ = safeP ⟨rn, rp, .slice aa rt.length ca, rt, rk, ren, rev, rei, .slice ab rl.length cb, rl, rat⟩ := safe_perm (r := ⟨rn, rp, .slice aa rt.length ca, rt, rk, ren, rev, rei, .slice ab rl.length cb, rl, rat⟩) (q := ⟨rn, rp, .slice aa rt.length ca, rt, rk, ren, rev, rei, .slice av qs.length cv, qs, rat⟩) (L := L) HP.out hqs rfl rfl rfl
      have hE : (chk [⟨rn, rp, .slice aa rt.length ca, rt, rk, ren, rev, rei, .slice av qs.length cv, qs, rat⟩]).length = (chk [⟨rn, rp, .slice aa rt.length ca, rt, rk, ren, rev, rei, .slice ab rl.length cb, rl, rat⟩]).length := chk_one hsp
      have HRr : ∀ (W : World) (n : Nat), Below wr.heap.size wr W → n = W.heap.size → IsRules (W.alloc (.cells #[.string rn.1, .int .i64 rp, .slice aa rt.length ca, .int .i64 rk, .string ren.1, .string rev.1, .int .i64 rei, .slice ab rl.length cb, .int .i64 rat] 27)) (.slice (some ⟨n, 0, none⟩) 1 1) [⟨rn, rp, .slice aa rt.length ca, rt, rk, ren, rev, rei, .slice ab rl.length cb, rl, rat⟩] := fun W n hb hn => rules_new' W n [⟨rn, rp, .slice aa rt.length ca, rt, rk, ren, rev, rei, .slice ab rl.length cb, rl, rat⟩] hn (by simp) (fun x hx => by
        have : x = ⟨rn, rp, .slice aa rt.length ca, rt, rk, ren, rev, rei, .slice ab rl.length cb, rl, rat⟩ := by simpa using hx
        rw [this]; exact hRr.keep (keeps_below hb))
      have HRq : ∀ (W : World) (n : Nat), Below wr.heap.size wr W → n = W.heap.size → IsRules (W.alloc (.cells #[.string rn.1, .int .i64 rp, .slice aa rt.length ca, .int .i64 rk, .string ren.1, .string rev.1, .int .i64 rei, .slice av qs.length cv, .int .i64 rat] 27)) (.slice (some ⟨n, 0, none⟩) 1 1) [⟨rn, rp, .slice aa rt.length ca, rt, rk, ren, rev, rei, .slice av qs.length cv, qs, rat⟩] := fun W n hb hn => rules_new' W n [⟨rn, rp, .slice aa rt.length ca, rt, rk, ren, rev, rei, .slice av qs.length cv, qs, rat⟩] hn (by simp) (fun x hx => by
        have : x = ⟨rn, rp, .slice aa rt.length ca, rt, rk, ren, rev, rei, .slice av qs.length cv, qs, rat⟩ := by simpa using hx
        rw [this]; exact hRq.keep (keeps_below hb))
      have HS : ∀ w', Below wr.heap.size wr w' → (fun w' => w'.cell? ⟨w.heap.size, 0, none⟩ = some (.string rn.1) ∧ w'.cell? ⟨w.heap.size, 1, none⟩ = some (.int .i64 rp) ∧ w'.cell? ⟨w.heap.size, 2, none⟩ = some (.slice aa rt.length ca) ∧ w'.cell? ⟨w.heap.size, 3, none⟩ = some (.int .i64 rk) ∧ w'.cell? ⟨w.heap.size, 4, none⟩ = some (.string ren.1) ∧ w'.cell? ⟨w.heap.size, 5, none⟩ = some (.string rev.1) ∧ w'.cell? ⟨w.heap.size, 6, none⟩ = some (.int .i64 rei) ∧ w'.cell? ⟨w.heap.size, 7, none⟩ = some (.slice ab rl.length cb) ∧ w'.cell? ⟨w.heap.size, 8, none⟩ = some (.int .i64 rat) ∧ w'.cell? ⟨w3.heap.size, 0, none⟩ = some (.string rn.1) ∧ w'.cell? ⟨w3.heap.size, 1, none⟩ = some (.int .i64 rp) ∧ w'.cell? ⟨w3.heap.size, 2, none⟩ = some (.slice aa rt.length ca) ∧ w'.cell? ⟨w3.heap.size, 3, none⟩ = some (.int .i64 rk) ∧ w'.cell? ⟨w3.heap.size, 4, none⟩ = some (.string ren.1) ∧ w'.cell? ⟨w3.heap.size, 5, none⟩ = some (.string rev.1) ∧ w'.cell? ⟨w3.heap.size, 6, none⟩ = some (.int .i64 rei) ∧ w'.cell? ⟨w3.heap.size, 7, none⟩ = some (.slice av qs.length cv) ∧ w'.cell? ⟨w3.heap.size, 8, none⟩ = some (.int .i64 rat)) w' := by
        intro w' hb'
        obtain ⟨r0, r1, r2, r3, r4, r5, r6, r7, r8⟩ := hxR _ (below_trans dW hb')
        have hx := fun j u (e : (#[.string rn.1, .int .i64 rp, .slice aa rt.length ca, .int .i64 rk, .string ren.1, .string rev.1, .int .i64 rei, .slice av qs.length cv, .int .i64 rat] : Array Value)[j]? = some u) => cell_keep hb' ((hbox.cell j).trans e)
        exact ⟨r0, r1, r2, r3, r4, r5, r6, r7, r8, hx 0 _ rfl, hx 1 _ rfl, hx 2 _ rfl, hx 3 _ rfl, hx 4 _ rfl, hx 5 _ rfl, hx 6 _ rfl, hx 7 _ rfl, hx 8 _ rfl⟩
      dsimp only at HS
      have HE := Lib.hid hE
      have hne : ¬ qs.length < rl.length := hlt
      clear hsp hE hqs he hql hown hbox
      go_upto_region 11 with fail
      go_region_held3 (fun w' => w'.cell? ⟨w.heap.size, 0, none⟩ = some (.string rn.1) ∧ w'.cell? ⟨w.heap.size, 1, none⟩ = some (.int .i64 rp) ∧ w'.cell? ⟨w.heap.size, 2, none⟩ = some (.slice aa rt.length ca) ∧ w'.cell? ⟨w.heap.size, 3, none⟩ = some (.int .i64 rk) ∧ w'.cell? ⟨w.heap.size, 4, none⟩ = some (.string ren.1) ∧ w'.cell? ⟨w.heap.size, 5, none⟩ = some (.string rev.1) ∧ w'.cell? ⟨w.heap.size, 6, none⟩ = some (.int .i64 rei) ∧ w'.cell? ⟨w.heap.size, 7, none⟩ = some (.slice ab rl.length cb) ∧ w'.cell? ⟨w.heap.size, 8, none⟩ = some (.int .i64 rat) ∧ w'.cell? ⟨w3.heap.size, 0, none⟩ = some (.string rn.1) ∧ w'.cell? ⟨w3.heap.size, 1, none⟩ = some (.int .i64 rp) ∧ w'.cell? ⟨w3.heap.size, 2, none⟩ = some (.slice aa rt.length ca) ∧ w'.cell? ⟨w3.heap.size, 3, none⟩ = some (.int .i64 rk) ∧ w'.cell? ⟨w3.heap.size, 4, none⟩ = some (.string ren.1) ∧ w'.cell? ⟨w3.heap.size, 5, none⟩ = some (.string rev.1) ∧ w'.cell? ⟨w3.heap.size, 6, none⟩ = some (.int .i64 rei) ∧ w'.cell? ⟨w3.heap.size, 7, none⟩ = some (.slice av qs.length cv) ∧ w'.cell? ⟨w3.heap.size, 8, none⟩ = some (.int .i64 rat))
        (first | exact HS _ (by with_reducible (repeat (first | assumption | exact Below.refl _ _ | refine below_alloc' ?_ | refine below_drew' ?_ | refine below_step (by assumption) ?_))))
        (first | (go_at_call 22; refine ck_one (by with_reducible (repeat (first | (refine HRr _ _ (by with_reducible (repeat (first | assumption | exact Below.refl _ _ | refine below_alloc' ?_ | refine below_drew' ?_ | refine below_step (by assumption) ?_))) ?_; simp <;> contradiction) | (refine HRq _ _ (by with_reducible (repeat (first | assumption | exact Below.refl _ _ | refine below_alloc' ?_ | refine below_drew' ?_ | refine below_step (by assumption) ?_))) ?_; simp <;> contradiction) | apply rules_alloc | apply rules_drew | (apply rules_step; assumption)))) ?_ ?_; (first | exact hfit | exact hfq); intro aG cG wG bG))
      all_goals
        go_wp2
        go_ret
        refine ⟨?_, below_trans cW (by with_reducible (repeat (first | assumption | exact Below.refl _ _ | refine below_alloc' ?_ | refine below_drew' ?_ | refine below_step (by assumption) ?_)))⟩
        have hE := HE.out
        first
          | exact ret_bool (by rw [hE]; exact beq_self_eq_true _)
          | (rw [hE]; exact ret_bool (beq_self_eq_true _))
          | simp [hE]
end Go.Proofs.Ytnibgmmoebmnlaa
