/- The law DiskOrder. -/
import Derived.Test.YtcembocnkndlhaaVa
import Derived.Test.YtcembocnkndlhaaL5
namespace Go.Proofs.Ytcembocnkndlhaa
open Go.RowKit
theorem two_ways {f g : Dk} {k : Int} (hf : formed f = true) (hg : formed g = true) (hfd : f.down = false) (hgd : g.down = false) (e0 : 0 ≤ k) (e1 : k < 400) (hR : replay f.pages f.writes = replay g.pages g.writes) :
    readD f k = (look f k, 0) ∧ readD g k = (look f k, 0) ∧ syncD f = (⟨replay f.pages f.writes, [], false⟩, 0) ∧ syncD g = (⟨replay f.pages f.writes, [], false⟩, 0) :=
  ⟨readD_ok hf hfd e0 e1, by rw [readD_ok hg hgd e0 e1, look_eq hg e0, look_eq hf e0, hR], syncD_ok hf hfd, by rw [syncD_ok hg hgd, hR]⟩
theorem law7_facts {d : Dk} {k1 k2 k3 : Int} {p q : List UInt8} (hf : formed d = true) (hd : d.down = false) (hw : d.writes.length ≤ 24) (a0 : 0 ≤ k1) (a1 : k1 < 400) (c0 : 0 ≤ k2) (c1 : k2 < 400) (e0 : 0 ≤ k3) (e1 : k3 < 400) (hp : p.length ≤ 64) (hq : q.length ≤ 64) :
    ∃ (f1 f2 g1 g s : Dk) (z : List UInt8), Hid (writeD d k1 p = (f1, 0)) ∧ f1.writes.length ≤ 30 ∧ Hid (writeD f1 k2 q = (f2, 0)) ∧ Hid (writeD d k2 q = (g1, 0)) ∧ g1.writes.length ≤ 30 ∧ Hid (k1 = k2 → g1 = g) ∧ Hid (k1 ≠ k2 → writeD g1 k1 p = (g, 0)) ∧ Hid (readD f2 k3 = (z, 0)) ∧ Hid (readD g k3 = (z, 0)) ∧ Hid (syncD f2 = (s, 0)) ∧ Hid (syncD g = (s, 0)) := by
  have hf1 := formed_write (data := p) hf hd a0 a1
  have hf2 := formed_write (data := q) hf1 hd c0 c1
  have hg1 := formed_write (data := q) hf hd c0 c1
  have hg2 := formed_write (data := p) hg1 hd a0 a1
  have hwd := (wide_of_formed hf d.writes.length).1
  rw [List.take_length] at hwd
  have n1 : ∀ x : Wt, (d.writes ++ [x]).length ≤ 30 := fun x => by rw [List.length_append]; simp; omega
  have w1 := writeD_ok hf hd a0 a1 hp
  have w2 := writeD_ok hf1 hd c0 c1 hq
  have w3 := writeD_ok hf hd c0 c1 hq
  have w4 := writeD_ok hg1 hd a0 a1 hp
  by_cases e : k1 = k2
  · have hR : replay d.pages (d.writes ++ [⟨k1, full p⟩] ++ [⟨k2, full q⟩]) = replay d.pages (d.writes ++ [⟨k2, full q⟩]) := by
      rw [replay_snoc, replay_snoc, replay_snoc]
      dsimp only
      rw [e, put_put hwd (length_full _) (length_full _)]
    obtain ⟨r1, r2, r3, r4⟩ := two_ways hf2 hg1 hd hd e0 e1 hR
    exact ⟨_, _, _, _, _, _, Lib.hid w1, n1 _, Lib.hid w2, Lib.hid w3, n1 _, Lib.hid fun _ => rfl, Lib.hid fun h => absurd e h, Lib.hid r1, Lib.hid r2, Lib.hid r3, Lib.hid r4⟩
  · have hR : replay d.pages (d.writes ++ [⟨k1, full p⟩] ++ [⟨k2, full q⟩]) = replay d.pages (d.writes ++ [⟨k2, full q⟩] ++ [⟨k1, full p⟩]) := by
      rw [replay_snoc, replay_snoc, replay_snoc, replay_snoc]
      dsimp only
      rw [put_comm (by omega)]
    obtain ⟨r1, r2, r3, r4⟩ := two_ways hf2 hg2 hd hd e0 e1 hR
    exact ⟨_, _, _, _, _, _, Lib.hid w1, n1 _, Lib.hid w2, Lib.hid w3, n1 _, Lib.hid fun h => absurd h e, Lib.hid fun _ => w4, Lib.hid r1, Lib.hid r2, Lib.hid r3, Lib.hid r4⟩
theorem DiskErrOff.to {B : Nat → Prop} {d' : Dk} {r : Int} {res : Dk × Int} {w w' : World} {e : Ending} (h : DiskErrOff B res w e w') (hr : Hid (res = (d', r))) : ∃ pa pc wa wc, e = .returned (.tuple #[.agg #[.slice pa d'.pages.length pc, .slice wa d'.writes.length wc, .bool d'.down], .int .i64 r]) ∧ OffDisk B w' (.agg #[.slice pa d'.pages.length pc, .slice wa d'.writes.length wc, .bool d'.down]) d' ∧ Below w.heap.size w w' := by
  obtain ⟨v, rfl, hD, hB⟩ := h
  rw [hr.out] at hD ⊢
  dsimp only at hD ⊢
  obtain ⟨pa, pc, wa, wc, rfl, _⟩ := hD.is.shape
  exact ⟨pa, pc, wa, wc, rfl, hD, hB⟩
theorem set3_ne {w : World} {β g : Nat} (x y z : Value) (h : β ≠ g) : (((w.setCell ⟨β, 0, none⟩ x).setCell ⟨β, 1, none⟩ y).setCell ⟨β, 2, none⟩ z).heap[g]? = w.heap[g]? := by
  simp [World.setCell, Array.getElem?_modify, h]
theorem set3_below {w0 w : World} {B β : Nat} (x y z : Value) (hb : Below B w0 w) (h : B ≤ β) : Below B w0 (((w.setCell ⟨β, 0, none⟩ x).setCell ⟨β, 1, none⟩ y).setCell ⟨β, 2, none⟩ z) :=
  ((hb.setCell (p := ⟨β, 0, none⟩) h x).setCell (p := ⟨β, 1, none⟩) h y).setCell (p := ⟨β, 2, none⟩) h z
theorem OffDisk.set3 {B : Nat → Prop} {w : World} {v : Value} {d : Dk} (h : OffDisk B w v d) {β : Nat} (hβ : B β) (x y z : Value) : OffDisk B (((w.setCell ⟨β, 0, none⟩ x).setCell ⟨β, 1, none⟩ y).setCell ⟨β, 2, none⟩ z) v d :=
  ((h.store (p := ⟨β, 0, none⟩) hβ x).store (p := ⟨β, 1, none⟩) hβ y).store (p := ⟨β, 2, none⟩) hβ z
set_option maxHeartbeats 16000000 in
set_option maxRecDepth 100000 in
theorem law7_any (v : Value) (d : Dk) (a b : Int) (bp : Value) (p : List UInt8) (bq : Value) (q : List UInt8) (c : Int) (w : World) (h0 : IsDisk w v d) (ha : 0 ≤ a ∧ a < 65536) (hb : 0 ≤ b ∧ b < 65536) (tp : IsBytes w bp p) (tq : IsBytes w bq q) (hc : 0 ≤ c ∧ c < 65536) : Calls Try.prog 7 #[v, .int .u16 a, .int .u16 b, bp, bq, .int .u16 c] w fun e w' => e = .returned (.bool true) ∧ Below w.heap.size w w' := by
  have TP := tp
  have TQ := tq
  obtain ⟨ppa, ppc, rfl, -, mp⟩ := id tp
  obtain ⟨qpa, qpc, rfl, -, mq⟩ := id tq
  obtain ⟨pa0, pc0, wa0, wc0, rfl, -, -, m1, m2, m3⟩ := h0.shape
  have H0 := h0
  obtain ⟨w1, hB0⟩ : ∃ x : World, x = w.alloc (.cells #[.slice pa0 d.pages.length pc0, .slice wa0 d.writes.length wc0, .bool d.down] 25) := ⟨_, rfl⟩
  have bp : _ ∧ _ := ⟨heap_alloc_new w (.cells #[.slice pa0 d.pages.length pc0, .slice wa0 d.writes.length wc0, .bool d.down] 25), below_new w (.cells #[.slice pa0 d.pages.length pc0, .slice wa0 d.writes.length wc0, .bool d.down] 25)⟩
  rw [← hB0] at bp
  obtain ⟨g0, bN⟩ := bp
  replace h0 := h0.keep bN
  replace tp := tp.keep bN
  replace tq := tq.keep bN
  have b0 := bN
  clear bN
  go_enter Try.func7, Try.ntmps7
  go_wp2_with fail
  rw [← hB0]
  clear hB0
  refine (head_any _).mono ?_
  intro e w2 hres
  obtain ⟨rfl, bN⟩ := hres
  replace g0 := block_keep g0 bN
  replace h0 := h0.keep bN
  replace tp := tp.keep bN
  replace tq := tq.keep bN
  replace b0 := below_trans b0 bN
  clear bN
  obtain ⟨y00, y01, y02, f00, f01, f02⟩ := Box3.of g0
  go_wp2_with fail
  refine (fine_any _ d _ h0).mono ?_
  rintro e w9 ⟨rfl, bN⟩
  clear y00 y01 y02 f00 f01 f02
  replace g0 := block_keep g0 bN
  replace h0 := h0.keep bN
  replace tp := tp.keep bN
  replace tq := tq.keep bN
  replace b0 := below_trans b0 bN
  clear bN
  cases hfi : fineD d
  · go_wp2
    go_ret
    exact ⟨rfl, b0⟩
  by_cases hlp : p.length ≤ 64
  case neg =>
    have hq : decide (64 < (p.length : Int)) = true := decide_eq_true (by omega)
    go_wp2
    go_ret
    exact ⟨rfl, b0⟩
  have hqp : decide (64 < (p.length : Int)) = false := decide_eq_false (by omega)
  by_cases hlq : q.length ≤ 64
  case neg =>
    have hq : decide (64 < (q.length : Int)) = true := decide_eq_true (by omega)
    go_wp2
    go_ret
    exact ⟨rfl, b0⟩
  have hqq : decide (64 < (q.length : Int)) = false := decide_eq_false (by omega)
  obtain ⟨hfm, hdn, hwl, -⟩ := fine_parts hfi
  obtain ⟨k1, hk1⟩ : ∃ kk : Int, kk = a % 400 := ⟨_, rfl⟩
  have hk10 : 0 ≤ k1 := by omega
  have hk11 : k1 < 400 := by omega
  have Hk1 := Lib.hid hk1
  obtain ⟨k2, hk2⟩ : ∃ kk : Int, kk = b % 400 := ⟨_, rfl⟩
  have hk20 : 0 ≤ k2 := by omega
  have hk21 : k2 < 400 := by omega
  have Hk2 := Lib.hid hk2
  obtain ⟨k3, hk3⟩ : ∃ kk : Int, kk = c % 400 := ⟨_, rfl⟩
  have hk30 : 0 ≤ k3 := by omega
  have hk31 : k3 < 400 := by omega
  have Hk3 := Lib.hid hk3
  obtain ⟨f1, f2, gd, gg, s, z, HF1, nf1, HF2, HG1, ng1, HEQ, HG2, HRF, HRG, HSF, HSG⟩ := law7_facts hfm hdn hwl hk10 hk11 hk20 hk21 hk30 hk31 hlp hlq
  clear hfm hdn hfi hk1 hk2 hk3
  go_upto_region 7 with fail
  rw [← Hk1.out, ← Hk2.out, ← Hk3.out]
  clear hqp hqq
  obtain ⟨y00, y01, y02, f00, f01, f02⟩ := Box3.of g0
  go_wp2_with fail
  refine (Write_any _ d k1 _ p _ h0 tp (by omega)).mono ?_
  intro e w10 hres
  obtain ⟨pa1, pc1, wa1, wc1, rfl, h1, bN⟩ := hres.to HF1
  clear y00 y01 y02 f00 f01 f02
  replace g0 := block_keep g0 bN
  replace h0 := h0.keep bN
  replace tp := tp.keep bN
  replace tq := tq.keep bN
  replace b0 := below_trans b0 bN
  clear bN
  have h1o := h1
  have hz1 := b0.size
  have hl0 := block_lt g0
  obtain ⟨w11, hB1⟩ : ∃ x : World, x = w10.alloc (.cells #[(.slice pa1 f1.pages.length pc1), (.slice wa1 f1.writes.length wc1), (.bool f1.down)] 25) := ⟨_, rfl⟩
  have bp : _ ∧ _ := ⟨heap_alloc_new w10 (.cells #[(.slice pa1 f1.pages.length pc1), (.slice wa1 f1.writes.length wc1), (.bool f1.down)] 25), below_new w10 (.cells #[(.slice pa1 f1.pages.length pc1), (.slice wa1 f1.writes.length wc1), (.bool f1.down)] 25)⟩
  rw [← hB1] at bp
  obtain ⟨g1, bN⟩ := bp
  have bo1 := bN
  replace g0 := block_keep g0 bN
  replace h0 := h0.keep bN
  replace h1 := h1.keep bN
  replace tp := tp.keep bN
  replace tq := tq.keep bN
  replace b0 := below_trans b0 bN
  clear bN
  go_upto_region 8 with fail
  rw [← hB1]
  clear hB1
  have o1 : OffDisk (fun i => i = w10.heap.size) w11 _ f1 := (h1o).off bo1 (by rintro _ rfl; exact Nat.le_refl _)
  obtain ⟨y00, y01, y02, f00, f01, f02⟩ := Box3.of g1
  go_wp2_with fail
  refine (Write_off (fun i => i = w10.heap.size) _ f1 k2 _ q _ o1 (by rintro _ rfl; exact block_lt g1) tq (by omega)).mono ?_
  intro e w12 hres
  obtain ⟨pa2, pc2, wa2, wc2, rfl, o2, bN⟩ := hres.to HF2
  clear y00 y01 y02 f00 f01 f02
  replace g0 := block_keep g0 bN
  replace g1 := block_keep g1 bN
  replace h0 := h0.keep bN
  replace h1 := h1.keep bN
  replace tp := tp.keep bN
  replace tq := tq.keep bN
  replace b0 := below_trans b0 bN
  replace o1 := o1.keep bN
  clear bN
  obtain ⟨y00, y01, y02, f00, f01, f02⟩ := Box3.of g1
  go_upto_region 9 with fail
  clear y00 y01 y02 f00 f01 f02
  obtain ⟨w13, hS⟩ : ∃ x : World, x = (((w12.setCell ⟨w10.heap.size, 0, none⟩ (.slice pa2 f2.pages.length pc2)).setCell ⟨w10.heap.size, 1, none⟩ (.slice wa2 f2.writes.length wc2)).setCell ⟨w10.heap.size, 2, none⟩ (.bool f2.down)) := ⟨_, rfl⟩
  rw [← hS]
  replace b0 := set3_below (β := w10.heap.size) (.slice pa2 f2.pages.length pc2) (.slice wa2 f2.writes.length wc2) (.bool f2.down) b0 (by omega)
  rw [← hS] at b0
  have h2 := (OffDisk.set3 (β := w10.heap.size) o2 rfl (.slice pa2 f2.pages.length pc2) (.slice wa2 f2.writes.length wc2) (.bool f2.down)).is
  rw [← hS] at h2
  clear o2
  replace g0 := (set3_ne (β := w10.heap.size) (.slice pa2 f2.pages.length pc2) (.slice wa2 f2.writes.length wc2) (.bool f2.down) (by omega)).trans g0
  rw [← hS] at g0
  replace g1 := Box3.set (x := (.slice pa2 f2.pages.length pc2)) (y := (.slice wa2 f2.writes.length wc2)) (z := (.bool f2.down)) g1
  rw [← hS] at g1
  replace h0 := H0.keep b0
  replace tp := TP.keep b0
  replace tq := TQ.keep b0
  clear h1 o1 hS
  have hl1 := block_lt g1
  have H2 := h2
  have b13 := Below.refl w13.heap.size w13
  obtain ⟨y00, y01, y02, f00, f01, f02⟩ := Box3.of g0
  go_wp2_with fail
  refine (Write_any _ d k2 _ q _ h0 tq (by omega)).mono ?_
  intro e w14 hres
  obtain ⟨pa3, pc3, wa3, wc3, rfl, h3, bN⟩ := hres.to HG1
  clear y00 y01 y02 f00 f01 f02
  replace g0 := block_keep g0 bN
  replace g1 := block_keep g1 bN
  replace h0 := h0.keep bN
  replace h2 := h2.keep bN
  replace tp := tp.keep bN
  replace tq := tq.keep bN
  replace b13 := below_trans b13 bN
  replace b0 := below_trans b0 bN
  clear bN
  have h3o := h3
  have hz3 := b13.size
  obtain ⟨w15, hB3⟩ : ∃ x : World, x = w14.alloc (.cells #[(.slice pa3 gd.pages.length pc3), (.slice wa3 gd.writes.length wc3), (.bool gd.down)] 25) := ⟨_, rfl⟩
  have bp : _ ∧ _ := ⟨heap_alloc_new w14 (.cells #[(.slice pa3 gd.pages.length pc3), (.slice wa3 gd.writes.length wc3), (.bool gd.down)] 25), below_new w14 (.cells #[(.slice pa3 gd.pages.length pc3), (.slice wa3 gd.writes.length wc3), (.bool gd.down)] 25)⟩
  rw [← hB3] at bp
  obtain ⟨g3, bN⟩ := bp
  have bo3 := bN
  replace g0 := block_keep g0 bN
  replace g1 := block_keep g1 bN
  replace h0 := h0.keep bN
  replace h2 := h2.keep bN
  replace h3 := h3.keep bN
  replace tp := tp.keep bN
  replace tq := tq.keep bN
  replace b13 := below_trans b13 bN
  replace b0 := below_trans b0 bN
  clear bN
  go_upto_region 10 with fail
  rw [← hB3]
  clear hB3
  by_cases e : k1 = k2
  · have HQ := HEQ.out e
    have HRG' : Hid (readD gd k3 = (z, 0)) := Lib.hid (by rw [HQ]; exact HRG.out)
    have HSG' : Hid (syncD gd = (s, 0)) := Lib.hid (by rw [HQ]; exact HSG.out)
    have e2 : (k1 != k2) = false := by simp [e]
    clear e HQ
    go_upto_region 15 with fail
    go_cut [97] from 86 to 96 (fun vt wx => vt = .bool false ∧ Below w15.heap.size w15 wx)
    case first =>
      have HS : ∀ w', Below w15.heap.size w15 w' → w'.cell? ⟨w10.heap.size, 0, none⟩ = some (.slice pa2 f2.pages.length pc2) ∧ w'.cell? ⟨w10.heap.size, 1, none⟩ = some (.slice wa2 f2.writes.length wc2) ∧ w'.cell? ⟨w10.heap.size, 2, none⟩ = some (.bool f2.down) ∧ w'.cell? ⟨w14.heap.size, 0, none⟩ = some (.slice pa3 gd.pages.length pc3) ∧ w'.cell? ⟨w14.heap.size, 1, none⟩ = some (.slice wa3 gd.writes.length wc3) ∧ w'.cell? ⟨w14.heap.size, 2, none⟩ = some (.bool gd.down) := fun w' hb => ⟨(Box3.of (block_keep g1 hb)).c0, (Box3.of (block_keep g1 hb)).c1, (Box3.of (block_keep g1 hb)).c2, (Box3.of (block_keep g3 hb)).c0, (Box3.of (block_keep g3 hb)).c1, (Box3.of (block_keep g3 hb)).c2⟩
      go_region_held3 (fun w' => w'.cell? ⟨w10.heap.size, 0, none⟩ = some (.slice pa2 f2.pages.length pc2) ∧ w'.cell? ⟨w10.heap.size, 1, none⟩ = some (.slice wa2 f2.writes.length wc2) ∧ w'.cell? ⟨w10.heap.size, 2, none⟩ = some (.bool f2.down) ∧ w'.cell? ⟨w14.heap.size, 0, none⟩ = some (.slice pa3 gd.pages.length pc3) ∧ w'.cell? ⟨w14.heap.size, 1, none⟩ = some (.slice wa3 gd.writes.length wc3) ∧ w'.cell? ⟨w14.heap.size, 2, none⟩ = some (.bool gd.down))
        (first | exact HS _ (by with_reducible (repeat (first | assumption | exact Below.refl _ _ | refine below_alloc' ?_ | refine below_drew' ?_ | refine below_step (by assumption) ?_))))
        (first
          | (go_at_call 34; refine page_ts (d := f2) (IsDisk.keep h2 (by with_reducible (repeat (first | assumption | exact Below.refl _ _ | refine below_alloc' ?_ | refine below_drew' ?_ | refine below_step (by assumption) ?_)))) HRF ?_; intro pa15 pc15 w15 t15 b15)
          | (go_at_call 34; refine page_ts (d := gd) (IsDisk.keep h3 (by with_reducible (repeat (first | assumption | exact Below.refl _ _ | refine below_alloc' ?_ | refine below_drew' ?_ | refine below_step (by assumption) ?_)))) HRG' ?_; intro pa16 pc16 w16 t16 b16)
          | (go_at_call 26; refine sameb_ts (IsBytes.keep t15 (by with_reducible (repeat (first | assumption | exact Below.refl _ _ | refine below_alloc' ?_ | refine below_drew' ?_ | refine below_step (by assumption) ?_)))) (IsBytes.keep t16 (by with_reducible (repeat (first | assumption | exact Below.refl _ _ | refine below_alloc' ?_ | refine below_drew' ?_ | refine below_step (by assumption) ?_)))) (Lib.hid rfl) ?_; intro w17 b17))
      all_goals
        go_wp2
        go_meet
        case rel => exact ⟨rfl, by with_reducible (repeat (first | assumption | exact Below.refl _ _ | refine below_alloc' ?_ | refine below_drew' ?_ | refine below_step (by assumption) ?_))⟩
    case rest =>
      obtain ⟨rfl, bN⟩ := hcut
      replace g0 := block_keep g0 bN
      replace g1 := block_keep g1 bN
      replace g3 := block_keep g3 bN
      replace h0 := h0.keep bN
      replace h2 := h2.keep bN
      replace h3 := h3.keep bN
      replace tp := tp.keep bN
      replace tq := tq.keep bN
      replace b13 := below_trans b13 bN
      replace b0 := below_trans b0 bN
      clear bN
      obtain ⟨y00, y01, y02, f00, f01, f02⟩ := Box3.of g1
      go_wp2_with fail
      refine (Sync_any _ f2 _ h2).mono ?_
      intro e w16 hres
      obtain ⟨pa5, pc5, wa5, wc5, rfl, h5, bN⟩ := hres.to HSF
      clear y00 y01 y02 f00 f01 f02
      replace g0 := block_keep g0 bN
      replace g1 := block_keep g1 bN
      replace g3 := block_keep g3 bN
      replace h0 := h0.keep bN
      replace h2 := h2.keep bN
      replace h3 := h3.keep bN
      replace tp := tp.keep bN
      replace tq := tq.keep bN
      replace b13 := below_trans b13 bN
      replace b0 := below_trans b0 bN
      clear bN
      obtain ⟨w17, hB5⟩ : ∃ x : World, x = w16.alloc (.cells #[(.slice pa5 s.pages.length pc5), (.slice wa5 s.writes.length wc5), (.bool s.down)] 25) := ⟨_, rfl⟩
      have bp : _ ∧ _ := ⟨heap_alloc_new w16 (.cells #[(.slice pa5 s.pages.length pc5), (.slice wa5 s.writes.length wc5), (.bool s.down)] 25), below_new w16 (.cells #[(.slice pa5 s.pages.length pc5), (.slice wa5 s.writes.length wc5), (.bool s.down)] 25)⟩
      rw [← hB5] at bp
      obtain ⟨g5, bN⟩ := bp
      replace g0 := block_keep g0 bN
      replace g1 := block_keep g1 bN
      replace g3 := block_keep g3 bN
      replace h0 := h0.keep bN
      replace h2 := h2.keep bN
      replace h3 := h3.keep bN
      replace h5 := h5.keep bN
      replace tp := tp.keep bN
      replace tq := tq.keep bN
      replace b13 := below_trans b13 bN
      replace b0 := below_trans b0 bN
      clear bN
      go_upto_region 18 with fail
      rw [← hB5]
      clear hB5
      obtain ⟨y00, y01, y02, f00, f01, f02⟩ := Box3.of g3
      go_wp2_with fail
      refine (Sync_any _ gd _ h3).mono ?_
      intro e w18 hres
      obtain ⟨pa6, pc6, wa6, wc6, rfl, h6, bN⟩ := hres.to HSG'
      clear y00 y01 y02 f00 f01 f02
      replace g0 := block_keep g0 bN
      replace g1 := block_keep g1 bN
      replace g3 := block_keep g3 bN
      replace g5 := block_keep g5 bN
      replace h0 := h0.keep bN
      replace h2 := h2.keep bN
      replace h3 := h3.keep bN
      replace h5 := h5.keep bN
      replace tp := tp.keep bN
      replace tq := tq.keep bN
      replace b13 := below_trans b13 bN
      replace b0 := below_trans b0 bN
      clear bN
      obtain ⟨w19, hB6⟩ : ∃ x : World, x = w18.alloc (.cells #[(.slice pa6 s.pages.length pc6), (.slice wa6 s.writes.length wc6), (.bool s.down)] 25) := ⟨_, rfl⟩
      have bp : _ ∧ _ := ⟨heap_alloc_new w18 (.cells #[(.slice pa6 s.pages.length pc6), (.slice wa6 s.writes.length wc6), (.bool s.down)] 25), below_new w18 (.cells #[(.slice pa6 s.pages.length pc6), (.slice wa6 s.writes.length wc6), (.bool s.down)] 25)⟩
      rw [← hB6] at bp
      obtain ⟨g6, bN⟩ := bp
      replace g0 := block_keep g0 bN
      replace g1 := block_keep g1 bN
      replace g3 := block_keep g3 bN
      replace g5 := block_keep g5 bN
      replace h0 := h0.keep bN
      replace h2 := h2.keep bN
      replace h3 := h3.keep bN
      replace h5 := h5.keep bN
      replace h6 := h6.keep bN
      replace tp := tp.keep bN
      replace tq := tq.keep bN
      replace b13 := below_trans b13 bN
      replace b0 := below_trans b0 bN
      clear bN
      go_upto_region 19 with fail
      rw [← hB6]
      clear hB6
      obtain ⟨y00, y01, y02, f00, f01, f02⟩ := Box3.of g5
      obtain ⟨y10, y11, y12, f10, f11, f12⟩ := Box3.of g6
      go_wp2_with fail
      refine same_ts h5 h6 (Lib.hid rfl) ?_
      intro w20 bN
      go_wp2
      go_ret
      exact ⟨rfl, below_trans b0 bN⟩
  · have HG2' := Lib.hid (HG2.out e)
    have HRG' := HRG
    have HSG' := HSG
    have e2 : (k1 != k2) = true := by simp [e]
    clear e
    have o3 : OffDisk (fun i => i = w14.heap.size) w15 _ gd := (h3o).off bo3 (by rintro _ rfl; exact Nat.le_refl _)
    obtain ⟨y00, y01, y02, f00, f01, f02⟩ := Box3.of g3
    go_wp2_with fail
    refine (Write_off (fun i => i = w14.heap.size) _ gd k1 _ p _ o3 (by rintro _ rfl; exact block_lt g3) tp (by omega)).mono ?_
    intro e w16 hres
    obtain ⟨pa4, pc4, wa4, wc4, rfl, o4, bN⟩ := hres.to HG2'
    clear y00 y01 y02 f00 f01 f02
    replace g0 := block_keep g0 bN
    replace g1 := block_keep g1 bN
    replace g3 := block_keep g3 bN
    replace h0 := h0.keep bN
    replace h2 := h2.keep bN
    replace h3 := h3.keep bN
    replace tp := tp.keep bN
    replace tq := tq.keep bN
    replace b13 := below_trans b13 bN
    replace b0 := below_trans b0 bN
    clear bN
    have h4 := o4.is
    have hl3 := block_lt g3
    obtain ⟨w17, hB4⟩ : ∃ x : World, x = w16.alloc (.cells #[(.slice pa4 gg.pages.length pc4), (.slice wa4 gg.writes.length wc4), (.bool gg.down)] 25) := ⟨_, rfl⟩
    have bp : _ ∧ _ := ⟨heap_alloc_new w16 (.cells #[(.slice pa4 gg.pages.length pc4), (.slice wa4 gg.writes.length wc4), (.bool gg.down)] 25), below_new w16 (.cells #[(.slice pa4 gg.pages.length pc4), (.slice wa4 gg.writes.length wc4), (.bool gg.down)] 25)⟩
    rw [← hB4] at bp
    obtain ⟨g4, bN⟩ := bp
    have o5 := o4.keep bN
    replace g0 := block_keep g0 bN
    replace g1 := block_keep g1 bN
    replace g3 := block_keep g3 bN
    replace h0 := h0.keep bN
    replace h2 := h2.keep bN
    replace h3 := h3.keep bN
    replace h4 := h4.keep bN
    replace tp := tp.keep bN
    replace tq := tq.keep bN
    replace b13 := below_trans b13 bN
    replace b0 := below_trans b0 bN
    clear bN
    go_upto_region 12 with fail
    rw [← hB4]
    clear hB4
    obtain ⟨y00, y01, y02, f00, f01, f02⟩ := Box3.of g4
    obtain ⟨y10, y11, y12, f10, f11, f12⟩ := Box3.of g3
    go_upto_region 13 with fail
    clear y00 y01 y02 f00 f01 f02
    clear y10 y11 y12 f10 f11 f12
    clear h4
    obtain ⟨w18, hS⟩ : ∃ x : World, x = (((w17.setCell ⟨w14.heap.size, 0, none⟩ (.slice pa4 gg.pages.length pc4)).setCell ⟨w14.heap.size, 1, none⟩ (.slice wa4 gg.writes.length wc4)).setCell ⟨w14.heap.size, 2, none⟩ (.bool gg.down)) := ⟨_, rfl⟩
    rw [← hS]
    replace b0 := set3_below (β := w14.heap.size) (.slice pa4 gg.pages.length pc4) (.slice wa4 gg.writes.length wc4) (.bool gg.down) b0 (by omega)
    rw [← hS] at b0
    replace b13 := set3_below (β := w14.heap.size) (.slice pa4 gg.pages.length pc4) (.slice wa4 gg.writes.length wc4) (.bool gg.down) b13 (by omega)
    rw [← hS] at b13
    have h4 := (OffDisk.set3 (β := w14.heap.size) o5 rfl (.slice pa4 gg.pages.length pc4) (.slice wa4 gg.writes.length wc4) (.bool gg.down)).is
    rw [← hS] at h4
    clear o5
    replace g0 := (set3_ne (β := w14.heap.size) (.slice pa4 gg.pages.length pc4) (.slice wa4 gg.writes.length wc4) (.bool gg.down) (by omega)).trans g0
    rw [← hS] at g0
    replace g1 := (set3_ne (β := w14.heap.size) (.slice pa4 gg.pages.length pc4) (.slice wa4 gg.writes.length wc4) (.bool gg.down) (by omega)).trans g1
    rw [← hS] at g1
    replace g4 := (set3_ne (β := w14.heap.size) (.slice pa4 gg.pages.length pc4) (.slice wa4 gg.writes.length wc4) (.bool gg.down) (by omega)).trans g4
    rw [← hS] at g4
    replace g3 := Box3.set (x := (.slice pa4 gg.pages.length pc4)) (y := (.slice wa4 gg.writes.length wc4)) (z := (.bool gg.down)) g3
    rw [← hS] at g3
    replace h0 := H0.keep b0
    replace tp := TP.keep b0
    replace tq := TQ.keep b0
    replace h2 := H2.keep b13
    clear h3 hS
    go_upto_region 15 with fail
    go_cut [97] from 86 to 96 (fun vt wx => vt = .bool false ∧ Below w18.heap.size w18 wx)
    case first =>
      have HS : ∀ w', Below w18.heap.size w18 w' → w'.cell? ⟨w10.heap.size, 0, none⟩ = some (.slice pa2 f2.pages.length pc2) ∧ w'.cell? ⟨w10.heap.size, 1, none⟩ = some (.slice wa2 f2.writes.length wc2) ∧ w'.cell? ⟨w10.heap.size, 2, none⟩ = some (.bool f2.down) ∧ w'.cell? ⟨w14.heap.size, 0, none⟩ = some (.slice pa4 gg.pages.length pc4) ∧ w'.cell? ⟨w14.heap.size, 1, none⟩ = some (.slice wa4 gg.writes.length wc4) ∧ w'.cell? ⟨w14.heap.size, 2, none⟩ = some (.bool gg.down) := fun w' hb => ⟨(Box3.of (block_keep g1 hb)).c0, (Box3.of (block_keep g1 hb)).c1, (Box3.of (block_keep g1 hb)).c2, (Box3.of (block_keep g3 hb)).c0, (Box3.of (block_keep g3 hb)).c1, (Box3.of (block_keep g3 hb)).c2⟩
      go_region_held3 (fun w' => w'.cell? ⟨w10.heap.size, 0, none⟩ = some (.slice pa2 f2.pages.length pc2) ∧ w'.cell? ⟨w10.heap.size, 1, none⟩ = some (.slice wa2 f2.writes.length wc2) ∧ w'.cell? ⟨w10.heap.size, 2, none⟩ = some (.bool f2.down) ∧ w'.cell? ⟨w14.heap.size, 0, none⟩ = some (.slice pa4 gg.pages.length pc4) ∧ w'.cell? ⟨w14.heap.size, 1, none⟩ = some (.slice wa4 gg.writes.length wc4) ∧ w'.cell? ⟨w14.heap.size, 2, none⟩ = some (.bool gg.down))
        (first | exact HS _ (by with_reducible (repeat (first | assumption | exact Below.refl _ _ | refine below_alloc' ?_ | refine below_drew' ?_ | refine below_step (by assumption) ?_))))
        (first
          | (go_at_call 34; refine page_ts (d := f2) (IsDisk.keep h2 (by with_reducible (repeat (first | assumption | exact Below.refl _ _ | refine below_alloc' ?_ | refine below_drew' ?_ | refine below_step (by assumption) ?_)))) HRF ?_; intro pa15 pc15 w15 t15 b15)
          | (go_at_call 34; refine page_ts (d := gg) (IsDisk.keep h4 (by with_reducible (repeat (first | assumption | exact Below.refl _ _ | refine below_alloc' ?_ | refine below_drew' ?_ | refine below_step (by assumption) ?_)))) HRG' ?_; intro pa16 pc16 w16 t16 b16)
          | (go_at_call 26; refine sameb_ts (IsBytes.keep t15 (by with_reducible (repeat (first | assumption | exact Below.refl _ _ | refine below_alloc' ?_ | refine below_drew' ?_ | refine below_step (by assumption) ?_)))) (IsBytes.keep t16 (by with_reducible (repeat (first | assumption | exact Below.refl _ _ | refine below_alloc' ?_ | refine below_drew' ?_ | refine below_step (by assumption) ?_)))) (Lib.hid rfl) ?_; intro w17 b17))
      all_goals
        go_wp2
        go_meet
        case rel => exact ⟨rfl, by with_reducible (repeat (first | assumption | exact Below.refl _ _ | refine below_alloc' ?_ | refine below_drew' ?_ | refine below_step (by assumption) ?_))⟩
    case rest =>
      obtain ⟨rfl, bN⟩ := hcut
      replace g0 := block_keep g0 bN
      replace g1 := block_keep g1 bN
      replace g3 := block_keep g3 bN
      replace g4 := block_keep g4 bN
      replace h0 := h0.keep bN
      replace h2 := h2.keep bN
      replace h4 := h4.keep bN
      replace tp := tp.keep bN
      replace tq := tq.keep bN
      replace b13 := below_trans b13 bN
      replace b0 := below_trans b0 bN
      clear bN
      obtain ⟨y00, y01, y02, f00, f01, f02⟩ := Box3.of g1
      go_wp2_with fail
      refine (Sync_any _ f2 _ h2).mono ?_
      intro e w19 hres
      obtain ⟨pa5, pc5, wa5, wc5, rfl, h5, bN⟩ := hres.to HSF
      clear y00 y01 y02 f00 f01 f02
      replace g0 := block_keep g0 bN
      replace g1 := block_keep g1 bN
      replace g3 := block_keep g3 bN
      replace g4 := block_keep g4 bN
      replace h0 := h0.keep bN
      replace h2 := h2.keep bN
      replace h4 := h4.keep bN
      replace tp := tp.keep bN
      replace tq := tq.keep bN
      replace b13 := below_trans b13 bN
      replace b0 := below_trans b0 bN
      clear bN
      obtain ⟨w20, hB5⟩ : ∃ x : World, x = w19.alloc (.cells #[(.slice pa5 s.pages.length pc5), (.slice wa5 s.writes.length wc5), (.bool s.down)] 25) := ⟨_, rfl⟩
      have bp : _ ∧ _ := ⟨heap_alloc_new w19 (.cells #[(.slice pa5 s.pages.length pc5), (.slice wa5 s.writes.length wc5), (.bool s.down)] 25), below_new w19 (.cells #[(.slice pa5 s.pages.length pc5), (.slice wa5 s.writes.length wc5), (.bool s.down)] 25)⟩
      rw [← hB5] at bp
      obtain ⟨g5, bN⟩ := bp
      replace g0 := block_keep g0 bN
      replace g1 := block_keep g1 bN
      replace g3 := block_keep g3 bN
      replace g4 := block_keep g4 bN
      replace h0 := h0.keep bN
      replace h2 := h2.keep bN
      replace h4 := h4.keep bN
      replace h5 := h5.keep bN
      replace tp := tp.keep bN
      replace tq := tq.keep bN
      replace b13 := below_trans b13 bN
      replace b0 := below_trans b0 bN
      clear bN
      go_upto_region 18 with fail
      rw [← hB5]
      clear hB5
      obtain ⟨y00, y01, y02, f00, f01, f02⟩ := Box3.of g3
      go_wp2_with fail
      refine (Sync_any _ gg _ h4).mono ?_
      intro e w21 hres
      obtain ⟨pa6, pc6, wa6, wc6, rfl, h6, bN⟩ := hres.to HSG'
      clear y00 y01 y02 f00 f01 f02
      replace g0 := block_keep g0 bN
      replace g1 := block_keep g1 bN
      replace g3 := block_keep g3 bN
      replace g4 := block_keep g4 bN
      replace g5 := block_keep g5 bN
      replace h0 := h0.keep bN
      replace h2 := h2.keep bN
      replace h4 := h4.keep bN
      replace h5 := h5.keep bN
      replace tp := tp.keep bN
      replace tq := tq.keep bN
      replace b13 := below_trans b13 bN
      replace b0 := below_trans b0 bN
      clear bN
      obtain ⟨w22, hB6⟩ : ∃ x : World, x = w21.alloc (.cells #[(.slice pa6 s.pages.length pc6), (.slice wa6 s.writes.length wc6), (.bool s.down)] 25) := ⟨_, rfl⟩
      have bp : _ ∧ _ := ⟨heap_alloc_new w21 (.cells #[(.slice pa6 s.pages.length pc6), (.slice wa6 s.writes.length wc6), (.bool s.down)] 25), below_new w21 (.cells #[(.slice pa6 s.pages.length pc6), (.slice wa6 s.writes.length wc6), (.bool s.down)] 25)⟩
      rw [← hB6] at bp
      obtain ⟨g6, bN⟩ := bp
      replace g0 := block_keep g0 bN
      replace g1 := block_keep g1 bN
      replace g3 := block_keep g3 bN
      replace g4 := block_keep g4 bN
      replace g5 := block_keep g5 bN
      replace h0 := h0.keep bN
      replace h2 := h2.keep bN
      replace h4 := h4.keep bN
      replace h5 := h5.keep bN
      replace h6 := h6.keep bN
      replace tp := tp.keep bN
      replace tq := tq.keep bN
      replace b13 := below_trans b13 bN
      replace b0 := below_trans b0 bN
      clear bN
      go_upto_region 19 with fail
      rw [← hB6]
      clear hB6
      obtain ⟨y00, y01, y02, f00, f01, f02⟩ := Box3.of g5
      obtain ⟨y10, y11, y12, f10, f11, f12⟩ := Box3.of g6
      go_wp2_with fail
      refine same_ts h5 h6 (Lib.hid rfl) ?_
      intro w23 bN
      go_wp2
      go_ret
      exact ⟨rfl, below_trans b0 bN⟩
end Go.Proofs.Ytcembocnkndlhaa
