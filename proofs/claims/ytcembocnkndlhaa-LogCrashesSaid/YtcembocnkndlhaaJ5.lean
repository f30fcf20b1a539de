/- Parts L7, Rm, Vc, Kq, Ko, Kr, Three: words, walks and laws that the claims of this seat share. -/
import Derived.Test.YtcembocnkndlhaaJ2
import Derived.Test.YtcembocnkndlhaaJ4
import Derived.Test.YtcembocnkndlhaaJ3
import Derived.Test.YtcembocnkndlhaaJ1
import Derived.Lib.SlBytesConst
import Derived.Lib.UnsafeStr
import Derived.Lib.SmallJoins
import Derived.Deep.RegionWith
import Derived.Deep.RegionLaw
/- The law DiskOrder. -/
namespace Go.Proofs.Ytcembocnkndlhaa
open Go.RowKit
theorem two_ways {f g : Dk} {k : Int} (hf : formed f = true) (hg : formed g = true) (hfd : f.down = false) (hgd : g.down = false) (e0 : 0 ≤ k) (e1 : k < 400) (hR : replay f.pages f.writes = replay g.pages g.writes) :
    readD f k = (look f k, 0) ∧ readD g k = (look f k, 0) ∧ syncD f = (⟨replay f.pages f.writes, [], false⟩, 0) ∧ syncD g = (⟨replay f.pages f.writes, [], false⟩, 0) :=
  ⟨readD_ok hf hfd e0 e1, by rw [readD_ok hg hgd e0 e1, look_eq hg e0, look_eq hf e0, hR], syncD_ok hf hfd, by rw [syncD_ok hg hgd, hR]⟩
theorem law7_facts {d : Dk} {k1 k2 k3 : Int} {p q : List UInt8} (hf : formed d = true) (hd : d.down = false) (hw : d.writes.length ≤ 24) (a0 : 0 ≤ k1) (a1 : k1 < 400) (c0 : 0 ≤ k2) (c1 : k2 < 400) (e0 : 0 ≤ k3) (e1 : k3 < 400) (hp : p.length ≤ 64) (hq : q.length ≤ 64) :
    ∃ (f1 f2 g1 g s : Dk) (z : List UInt8), Hid (writeD d k1 p = (f1, 0)) ∧ f1.writes.length ≤ 30 ∧ Hid (writeD f1 k2 q = (f2, 0)) ∧ Hid (writeD d k2 q = (g1, 0)) ∧ g1.writes.length ≤ 30 ∧ Hid (k1 = k2 → g1 = g) ∧ Hid (k1 ≠ k2 → writeD g1 k1 p = (g, 0)) ∧ Hid (readD f2 k3 = (z, 0)) ∧ Hid (readD g k3 = (z, 0)) ∧ Hid (syncD f2 = (s, 0)) ∧ Hid (syncD g = (s, 0)) := by
  have hf1 := formed_write (data := p) hf hd a0 a1
  have hf2 := formed_write (data := q) hf1 hd c0 c1
  have hg1 := formed_write (data := q) hf hd c0 c1
  have hg2 := formed_write (data := p) hg1 hd a0 a1
  have hwd := (wide_of_formed hf d.writes.length).1
  rw [List.take_length] at hwd
  have n1 : ∀ x : Wt, (d.writes ++ [x]).length ≤ 30 := fun x => by rw [List.length_append]; simp; omega
  have w1 := writeD_ok hf hd a0 a1 hp
  have w2 := writeD_ok hf1 hd c0 c1 hq
  have w3 := writeD_ok hf hd c0 c1 hq
  have w4 := writeD_ok hg1 hd a0 a1 hp
  by_cases e : k1 = k2
  · have hR : replay d.pages (d.writes ++ [⟨k1, full p⟩] ++ [⟨k2, full q⟩]) = replay d.pages (d.writes ++ [⟨k2, full q⟩]) := by
      rw [replay_snoc, replay_snoc, replay_snoc]
      dsimp only
      rw [e, put_put hwd (length_full _) (length_full _)]
    obtain ⟨r1, r2, r3, r4⟩ := two_ways hf2 hg1 hd hd e0 e1 hR
    exact ⟨_, _, _, _, _, _, Lib.hid w1, n1 _, Lib.hid w2, Lib.hid w3, n1 _, Lib.hid fun _ => rfl, Lib.hid fun h => absurd e h, Lib.hid r1, Lib.hid r2, Lib.hid r3, Lib.hid r4⟩
  · have hR : replay d.pages (d.writes ++ [⟨k1, full p⟩] ++ [⟨k2, full q⟩]) = replay d.pages (d.writes ++ [⟨k2, full q⟩] ++ [⟨k1, full p⟩]) := by
      rw [replay_snoc, replay_snoc, replay_snoc, replay_snoc]
      dsimp only
      rw [put_comm (by omega)]
    obtain ⟨r1, r2, r3, r4⟩ := two_ways hf2 hg2 hd hd e0 e1 hR
    exact ⟨_, _, _, _, _, _, Lib.hid w1, n1 _, Lib.hid w2, Lib.hid w3, n1 _, Lib.hid fun h => absurd h e, Lib.hid fun _ => w4, Lib.hid r1, Lib.hid r2, Lib.hid r3, Lib.hid r4⟩
theorem DiskErrOff.to {B : Nat → Prop} {d' : Dk} {r : Int} {res : Dk × Int} {w w' : World} {e : Ending} (h : DiskErrOff B res w e w') (hr : Hid (res = (d', r))) : ∃ pa pc wa wc, e = .returned (.tuple #[.agg #[.slice pa d'.pages.length pc, .slice wa d'.writes.length wc, .bool d'.down], .int .i64 r]) ∧ OffDisk B w' (.agg #[.slice pa d'.pages.length pc, .slice wa d'.writes.length wc, .bool d'.down]) d' ∧ Below w.heap.size w w' := by
  obtain ⟨v, rfl, hD, hB⟩ := h
  rw [hr.out] at hD ⊢
  dsimp only at hD ⊢
  obtain ⟨pa, pc, wa, wc, rfl, _⟩ := hD.is.shape
  exact ⟨pa, pc, wa, wc, rfl, hD, hB⟩
theorem set3_ne {w : World} {β g : Nat} (x y z : Value) (h : β ≠ g) : (((w.setCell ⟨β, 0, none⟩ x).setCell ⟨β, 1, none⟩ y).setCell ⟨β, 2, none⟩ z).heap[g]? = w.heap[g]? := by
  simp [World.setCell, Array.getElem?_modify, h]
theorem set3_below {w0 w : World} {B β : Nat} (x y z : Value) (hb : Below B w0 w) (h : B ≤ β) : Below B w0 (((w.setCell ⟨β, 0, none⟩ x).setCell ⟨β, 1, none⟩ y).setCell ⟨β, 2, none⟩ z) :=
  ((hb.setCell (p := ⟨β, 0, none⟩) h x).setCell (p := ⟨β, 1, none⟩) h y).setCell (p := ⟨β, 2, none⟩) h z
theorem OffDisk.set3 {B : Nat → Prop} {w : World} {v : Value} {d : Dk} (h : OffDisk B w v d) {β : Nat} (hβ : B β) (x y z : Value) : OffDisk B (((w.setCell ⟨β, 0, none⟩ x).setCell ⟨β, 1, none⟩ y).setCell ⟨β, 2, none⟩ z) v d :=
  ((h.store (p := ⟨β, 0, none⟩) hβ x).store (p := ⟨β, 1, none⟩) hβ y).store (p := ⟨β, 2, none⟩) hβ z
set_option maxHeartbeats 16000000 in
set_option maxRecDepth 100000 in
theorem law7_any (v : Value) (d : Dk) (a b : Int) (bp : Value) (p : List UInt8) (bq : Value) (q : List UInt8) (c : Int) (w : World) (h0 : IsDisk w v d) (ha : 0 ≤ a ∧ a < 65536) (hb : 0 ≤ b ∧ b < 65536) (tp : IsBytes w bp p) (tq : IsBytes w bq q) (hc : 0 ≤ c ∧ c < 65536) : Calls Try.prog 7 #[v, .int .u16 a, .int .u16 b, bp, bq, .int .u16 c] w fun e w' => e = .returned (.bool true) ∧ Below w.heap.size w w' := by
  have TP := tp
  have TQ := tq
  obtain ⟨ppa, ppc, rfl, -, mp⟩ := id tp
  obtain ⟨qpa, qpc, rfl, -, mq⟩ := id tq
  obtain ⟨pa0, pc0, wa0, wc0, rfl, -, -, m1, m2, m3⟩ := h0.shape
  have H0 := h0
  obtain ⟨w1, hB0⟩ : ∃ x : World, x = w.alloc (.cells #[.slice pa0 d.pages.length pc0, .slice wa0 d.writes.length wc0, .bool d.down] 25) := ⟨_, rfl⟩
  have bp : _ ∧ _ := ⟨heap_alloc_new w (.cells #[.slice pa0 d.pages.length pc0, .slice wa0 d.writes.length wc0, .bool d.down] 25), below_new w (.cells #[.slice pa0 d.pages.length pc0, .slice wa0 d.writes.length wc0, .bool d.down] 25)⟩
  rw [← hB0] at bp
  obtain ⟨g0, bN⟩ := bp
  replace h0 := h0.keep bN
  replace tp := tp.keep bN
  replace tq := tq.keep bN
  have b0 := bN
  clear bN
  go_enter Try.func7, Try.ntmps7
  go_wp2_with fail
  rw [← hB0]
  clear hB0
  refine (head_any _).mono ?_
  intro e w2 hres
  obtain ⟨rfl, bN⟩ := hres
  replace g0 := block_keep g0 bN
  replace h0 := h0.keep bN
  replace tp := tp.keep bN
  replace tq := tq.keep bN
  replace b0 := below_trans b0 bN
  clear bN
  obtain ⟨y00, y01, y02, f00, f01, f02⟩ := Box3.of g0
  go_wp2_with fail
  refine (fine_any _ d _ h0).mono ?_
  rintro e w9 ⟨rfl, bN⟩
  clear y00 y01 y02 f00 f01 f02
  replace g0 := block_keep g0 bN
  replace h0 := h0.keep bN
  replace tp := tp.keep bN
  replace tq := tq.keep bN
  replace b0 := below_trans b0 bN
  clear bN
  cases hfi : fineD d
  · go_wp2
    go_ret
    exact ⟨rfl, b0⟩
  by_cases hlp : p.length ≤ 64
  case neg =>
    have hq : decide (64 < (p.length : Int)) = true := decide_eq_true (by omega)
    go_wp2
    go_ret
    exact ⟨rfl, b0⟩
  have hqp : decide (64 < (p.length : Int)) = false := decide_eq_false (by omega)
  by_cases hlq : q.length ≤ 64
  case neg =>
    have hq : decide (64 < (q.length : Int)) = true := decide_eq_true (by omega)
    go_wp2
    go_ret
    exact ⟨rfl, b0⟩
  have hqq : decide (64 < (q.length : Int)) = false := decide_eq_false (by omega)
  obtain ⟨hfm, hdn, hwl, -⟩ := fine_parts hfi
  obtain ⟨k1, hk1⟩ : ∃ kk : Int, kk = a % 400 := ⟨_, rfl⟩
  have hk10 : 0 ≤ k1 := by omega
  have hk11 : k1 < 400 := by omega
  have Hk1 := Lib.hid hk1
  obtain ⟨k2, hk2⟩ : ∃ kk : Int, kk = b % 400 := ⟨_, rfl⟩
  have hk20 : 0 ≤ k2 := by omega
  have hk21 : k2 < 400 := by omega
  have Hk2 := Lib.hid hk2
  obtain ⟨k3, hk3⟩ : ∃ kk : Int, kk = c % 400 := ⟨_, rfl⟩
  have hk30 : 0 ≤ k3 := by omega
  have hk31 : k3 < 400 := by omega
  have Hk3 := Lib.hid hk3
  obtain ⟨f1, f2, gd, gg, s, z, HF1, nf1, HF2, HG1, ng1, HEQ, HG2, HRF, HRG, HSF, HSG⟩ := law7_facts hfm hdn hwl hk10 hk11 hk20 hk21 hk30 hk31 hlp hlq
  clear hfm hdn hfi hk1 hk2 hk3
  go_upto_region 7 with fail
  rw [← Hk1.out, ← Hk2.out, ← Hk3.out]
  clear hqp hqq
  obtain ⟨y00, y01, y02, f00, f01, f02⟩ := Box3.of g0
  go_wp2_with fail
  refine (Write_any _ d k1 _ p _ h0 tp (by omega)).mono ?_
  intro e w10 hres
  obtain ⟨pa1, pc1, wa1, wc1, rfl, h1, bN⟩ := hres.to HF1
  clear y00 y01 y02 f00 f01 f02
  replace g0 := block_keep g0 bN
  replace h0 := h0.keep bN
  replace tp := tp.keep bN
  replace tq := tq.keep bN
  replace b0 := below_trans b0 bN
  clear bN
  have h1o := h1
  have hz1 := b0.size
  have hl0 := block_lt g0
  obtain ⟨w11, hB1⟩ : ∃ x : World, x = w10.alloc (.cells #[(.slice pa1 f1.pages.length pc1), (.slice wa1 f1.writes.length wc1), (.bool f1.down)] 25) := ⟨_, rfl⟩
  have bp : _ ∧ _ := ⟨heap_alloc_new w10 (.cells #[(.slice pa1 f1.pages.length pc1), (.slice wa1 f1.writes.length wc1), (.bool f1.down)] 25), below_new w10 (.cells #[(.slice pa1 f1.pages.length pc1), (.slice wa1 f1.writes.length wc1), (.bool f1.down)] 25)⟩
  rw [← hB1] at bp
  obtain ⟨g1, bN⟩ := bp
  have bo1 := bN
  replace g0 := block_keep g0 bN
  replace h0 := h0.keep bN
  replace h1 := h1.keep bN
  replace tp := tp.keep bN
  replace tq := tq.keep bN
  replace b0 := below_trans b0 bN
  clear bN
  go_upto_region 8 with fail
  rw [← hB1]
  clear hB1
  have o1 : OffDisk (fun i => i = w10.heap.size) w11 _ f1 := (h1o).off bo1 (by rintro _ rfl; exact Nat.le_refl _)
  obtain ⟨y00, y01, y02, f00, f01, f02⟩ := Box3.of g1
  go_wp2_with fail
  refine (Write_off (fun i => i = w10.heap.size) _ f1 k2 _ q _ o1 (by rintro _ rfl; exact block_lt g1) tq (by omega)).mono ?_
  intro e w12 hres
  obtain ⟨pa2, pc2, wa2, wc2, rfl, o2, bN⟩ := hres.to HF2
  clear y00 y01 y02 f00 f01 f02
  replace g0 := block_keep g0 bN
  replace g1 := block_keep g1 bN
  replace h0 := h0.keep bN
  replace h1 := h1.keep bN
  replace tp := tp.keep bN
  replace tq := tq.keep bN
  replace b0 := below_trans b0 bN
  replace o1 := o1.keep bN
  clear bN
  obtain ⟨y00, y01, y02, f00, f01, f02⟩ := Box3.of g1
  go_upto_region 9 with fail
  clear y00 y01 y02 f00 f01 f02
  obtain ⟨w13, hS⟩ : ∃ x : World, x = (((w12.setCell ⟨w10.heap.size, 0, none⟩ (.slice pa2 f2.pages.length pc2)).setCell ⟨w10.heap.size, 1, none⟩ (.slice wa2 f2.writes.length wc2)).setCell ⟨w10.heap.size, 2, none⟩ (.bool f2.down)) := ⟨_, rfl⟩
  rw [← hS]
  replace b0 := set3_below (β := w10.heap.size) (.slice pa2 f2.pages.length pc2) (.slice wa2 f2.writes.length wc2) (.bool f2.down) b0 (by omega)
  rw [← hS] at b0
  have h2 := (OffDisk.set3 (β := w10.heap.size) o2 rfl (.slice pa2 f2.pages.length pc2) (.slice wa2 f2.writes.length wc2) (.bool f2.down)).is
  rw [← hS] at h2
  clear o2
  replace g0 := (set3_ne (β := w10.heap.size) (.slice pa2 f2.pages.length pc2) (.slice wa2 f2.writes.length wc2) (.bool f2.down) (by omega)).trans g0
  rw [← hS] at g0
  replace g1 := Box3.set (x := (.slice pa2 f2.pages.length pc2)) (y := (.slice wa2 f2.writes.length wc2)) (z := (.bool f2.down)) g1
  rw [← hS] at g1
  replace h0 := H0.keep b0
  replace tp := TP.keep b0
  replace tq := TQ.keep b0
  clear h1 o1 hS
  have hl1 := block_lt g1
  have H2 := h2
  have b13 := Below.refl w13.heap.size w13
  obtain ⟨y00, y01, y02, f00, f01, f02⟩ := Box3.of g0
  go_wp2_with fail
  refine (Write_any _ d k2 _ q _ h0 tq (by omega)).mono ?_
  intro e w14 hres
  obtain ⟨pa3, pc3, wa3, wc3, rfl, h3, bN⟩ := hres.to HG1
  clear y00 y01 y02 f00 f01 f02
  replace g0 := block_keep g0 bN
  replace g1 := block_keep g1 bN
  replace h0 := h0.keep bN
  replace h2 := h2.keep bN
  replace tp := tp.keep bN
  replace tq := tq.keep bN
  replace b13 := below_trans b13 bN
  replace b0 := below_trans b0 bN
  clear bN
  have h3o := h3
  have hz3 := b13.size
  obtain ⟨w15, hB3⟩ : ∃ x : World, x = w14.alloc (.cells #[(.slice pa3 gd.pages.length pc3), (.slice wa3 gd.writes.length wc3), (.bool gd.down)] 25) := ⟨_, rfl⟩
  have bp : _ ∧ _ := ⟨heap_alloc_new w14 (.cells #[(.slice pa3 gd.pages.length pc3), (.slice wa3 gd.writes.length wc3), (.bool gd.down)] 25), below_new w14 (.cells #[(.slice pa3 gd.pages.length pc3), (.slice wa3 gd.writes.length wc3), (.bool gd.down)] 25)⟩
  rw [← hB3] at bp
  obtain ⟨g3, bN⟩ := bp
  have bo3 := bN
  replace g0 := block_keep g0 bN
  replace g1 := block_keep g1 bN
  replace h0 := h0.keep bN
  replace h2 := h2.keep bN
  replace h3 := h3.keep bN
  replace tp := tp.keep bN
  replace tq := tq.keep bN
  replace b13 := below_trans b13 bN
  replace b0 := below_trans b0 bN
  clear bN
  go_upto_region 10 with fail
  rw [← hB3]
  clear hB3
  by_cases e : k1 = k2
  · have HQ := HEQ.out e
    have HRG' : Hid (readD gd k3 = (z, 0)) := Lib.hid (by rw [HQ]; exact HRG.out)
    have HSG' : Hid (syncD gd = (s, 0)) := Lib.hid (by rw [HQ]; exact HSG.out)
    have e2 : (k1 != k2) = false := by simp [e]
    clear e HQ
    go_upto_region 15 with fail
    go_cut [97] from 86 to 96 (fun vt wx => vt = .bool false ∧ Below w15.heap.size w15 wx)
    case first =>
      have HS : ∀ w', Below w15.heap.size w15 w' → w'.cell? ⟨w10.heap.size, 0, none⟩ = some (.slice pa2 f2.pages.length pc2) ∧ w'.cell? ⟨w10.heap.size, 1, none⟩ = some (.slice wa2 f2.writes.length wc2) ∧ w'.cell? ⟨w10.heap.size, 2, none⟩ = some (.bool f2.down) ∧ w'.cell? ⟨w14.heap.size, 0, none⟩ = some (.slice pa3 gd.pages.length pc3) ∧ w'.cell? ⟨w14.heap.size, 1, none⟩ = some (.slice wa3 gd.writes.length wc3) ∧ w'.cell? ⟨w14.heap.size, 2, none⟩ = some (.bool gd.down) := fun w' hb => ⟨(Box3.of (block_keep g1 hb)).c0, (Box3.of (block_keep g1 hb)).c1, (Box3.of (block_keep g1 hb)).c2, (Box3.of (block_keep g3 hb)).c0, (Box3.of (block_keep g3 hb)).c1, (Box3.of (block_keep g3 hb)).c2⟩
      go_region_held3 (fun w' => w'.cell? ⟨w10.heap.size, 0, none⟩ = some (.slice pa2 f2.pages.length pc2) ∧ w'.cell? ⟨w10.heap.size, 1, none⟩ = some (.slice wa2 f2.writes.length wc2) ∧ w'.cell? ⟨w10.heap.size, 2, none⟩ = some (.bool f2.down) ∧ w'.cell? ⟨w14.heap.size, 0, none⟩ = some (.slice pa3 gd.pages.length pc3) ∧ w'.cell? ⟨w14.heap.size, 1, none⟩ = some (.slice wa3 gd.writes.length wc3) ∧ w'.cell? ⟨w14.heap.size, 2, none⟩ = some (.bool gd.down))
        (first | exact HS _ (by with_reducible (repeat (first | assumption | exact Below.refl _ _ | refine below_alloc' ?_ | refine below_drew' ?_ | refine below_step (by assumption) ?_))))
        (first
          | (go_at_call 34; refine page_ts (d := f2) (IsDisk.keep h2 (by with_reducible (repeat (first | assumption | exact Below.refl _ _ | refine below_alloc' ?_ | refine below_drew' ?_ | refine below_step (by assumption) ?_)))) HRF ?_; intro pa15 pc15 w15 t15 b15)
          | (go_at_call 34; refine page_ts (d := gd) (IsDisk.keep h3 (by with_reducible (repeat (first | assumption | exact Below.refl _ _ | refine below_alloc' ?_ | refine below_drew' ?_ | refine below_step (by assumption) ?_)))) HRG' ?_; intro pa16 pc16 w16 t16 b16)
          | (go_at_call 26; refine sameb_ts (IsBytes.keep t15 (by with_reducible (repeat (first | assumption | exact Below.refl _ _ | refine below_alloc' ?_ | refine below_drew' ?_ | refine below_step (by assumption) ?_)))) (IsBytes.keep t16 (by with_reducible (repeat (first | assumption | exact Below.refl _ _ | refine below_alloc' ?_ | refine below_drew' ?_ | refine below_step (by assumption) ?_)))) (Lib.hid rfl) ?_; intro w17 b17))
      all_goals
        go_wp2
        go_meet
        case rel => exact ⟨rfl, by with_reducible (repeat (first | assumption | exact Below.refl _ _ | refine below_alloc' ?_ | refine below_drew' ?_ | refine below_step (by assumption) ?_))⟩
    case rest =>
      obtain ⟨rfl, bN⟩ := hcut
      replace g0 := block_keep g0 bN
      replace g1 := block_keep g1 bN
      replace g3 := block_keep g3 bN
      replace h0 := h0.keep bN
      replace h2 := h2.keep bN
      replace h3 := h3.keep bN
      replace tp := tp.keep bN
      replace tq := tq.keep bN
      replace b13 := below_trans b13 bN
      replace b0 := below_trans b0 bN
      clear bN
      obtain ⟨y00, y01, y02, f00, f01, f02⟩ := Box3.of g1
      go_wp2_with fail
      refine (Sync_any _ f2 _ h2).mono ?_
      intro e w16 hres
      obtain ⟨pa5, pc5, wa5, wc5, rfl, h5, bN⟩ := hres.to HSF
      clear y00 y01 y02 f00 f01 f02
      replace g0 := block_keep g0 bN
      replace g1 := block_keep g1 bN
      replace g3 := block_keep g3 bN
      replace h0 := h0.keep bN
      replace h2 := h2.keep bN
      replace h3 := h3.keep bN
      replace tp := tp.keep bN
      replace tq := tq.keep bN
      replace b13 := below_trans b13 bN
      replace b0 := below_trans b0 bN
      clear bN
      obtain ⟨w17, hB5⟩ : ∃ x : World, x = w16.alloc (.cells #[(.slice pa5 s.pages.length pc5), (.slice wa5 s.writes.length wc5), (.bool s.down)] 25) := ⟨_, rfl⟩
      have bp : _ ∧ _ := ⟨heap_alloc_new w16 (.cells #[(.slice pa5 s.pages.length pc5), (.slice wa5 s.writes.length wc5), (.bool s.down)] 25), below_new w16 (.cells #[(.slice pa5 s.pages.length pc5), (.slice wa5 s.writes.length wc5), (.bool s.down)] 25)⟩
      rw [← hB5] at bp
      obtain ⟨g5, bN⟩ := bp
      replace g0 := block_keep g0 bN
      replace g1 := block_keep g1 bN
      replace g3 := block_keep g3 bN
      replace h0 := h0.keep bN
      replace h2 := h2.keep bN
      replace h3 := h3.keep bN
      replace h5 := h5.keep bN
      replace tp := tp.keep bN
      replace tq := tq.keep bN
      replace b13 := below_trans b13 bN
      replace b0 := below_trans b0 bN
      clear bN
      go_upto_region 18 with fail
      rw [← hB5]
      clear hB5
      obtain ⟨y00, y01, y02, f00, f01, f02⟩ := Box3.of g3
      go_wp2_with fail
      refine (Sync_any _ gd _ h3).mono ?_
      intro e w18 hres
      obtain ⟨pa6, pc6, wa6, wc6, rfl, h6, bN⟩ := hres.to HSG'
      clear y00 y01 y02 f00 f01 f02
      replace g0 := block_keep g0 bN
      replace g1 := block_keep g1 bN
      replace g3 := block_keep g3 bN
      replace g5 := block_keep g5 bN
      replace h0 := h0.keep bN
      replace h2 := h2.keep bN
      replace h3 := h3.keep bN
      replace h5 := h5.keep bN
      replace tp := tp.keep bN
      replace tq := tq.keep bN
      replace b13 := below_trans b13 bN
      replace b0 := below_trans b0 bN
      clear bN
      obtain ⟨w19, hB6⟩ : ∃ x : World, x = w18.alloc (.cells #[(.slice pa6 s.pages.length pc6), (.slice wa6 s.writes.length wc6), (.bool s.down)] 25) := ⟨_, rfl⟩
      have bp : _ ∧ _ := ⟨heap_alloc_new w18 (.cells #[(.slice pa6 s.pages.length pc6), (.slice wa6 s.writes.length wc6), (.bool s.down)] 25), below_new w18 (.cells #[(.slice pa6 s.pages.length pc6), (.slice wa6 s.writes.length wc6), (.bool s.down)] 25)⟩
      rw [← hB6] at bp
      obtain ⟨g6, bN⟩ := bp
      replace g0 := block_keep g0 bN
      replace g1 := block_keep g1 bN
      replace g3 := block_keep g3 bN
      replace g5 := block_keep g5 bN
      replace h0 := h0.keep bN
      replace h2 := h2.keep bN
      replace h3 := h3.keep bN
      replace h5 := h5.keep bN
      replace h6 := h6.keep bN
      replace tp := tp.keep bN
      replace tq := tq.keep bN
      replace b13 := below_trans b13 bN
      replace b0 := below_trans b0 bN
      clear bN
      go_upto_region 19 with fail
      rw [← hB6]
      clear hB6
      obtain ⟨y00, y01, y02, f00, f01, f02⟩ := Box3.of g5
      obtain ⟨y10, y11, y12, f10, f11, f12⟩ := Box3.of g6
      go_wp2_with fail
      refine same_ts h5 h6 (Lib.hid rfl) ?_
      intro w20 bN
      go_wp2
      go_ret
      exact ⟨rfl, below_trans b0 bN⟩
  · have HG2' := Lib.hid (HG2.out e)
    have HRG' := HRG
    have HSG' := HSG
    have e2 : (k1 != k2) = true := by simp [e]
    clear e
    have o3 : OffDisk (fun i => i = w14.heap.size) w15 _ gd := (h3o).off bo3 (by rintro _ rfl; exact Nat.le_refl _)
    obtain ⟨y00, y01, y02, f00, f01, f02⟩ := Box3.of g3
    go_wp2_with fail
    refine (Write_off (fun i => i = w14.heap.size) _ gd k1 _ p _ o3 (by rintro _ rfl; exact block_lt g3) tp (by omega)).mono ?_
    intro e w16 hres
    obtain ⟨pa4, pc4, wa4, wc4, rfl, o4, bN⟩ := hres.to HG2'
    clear y00 y01 y02 f00 f01 f02
    replace g0 := block_keep g0 bN
    replace g1 := block_keep g1 bN
    replace g3 := block_keep g3 bN
    replace h0 := h0.keep bN
    replace h2 := h2.keep bN
    replace h3 := h3.keep bN
    replace tp := tp.keep bN
    replace tq := tq.keep bN
    replace b13 := below_trans b13 bN
    replace b0 := below_trans b0 bN
    clear bN
    have h4 := o4.is
    have hl3 := block_lt g3
    obtain ⟨w17, hB4⟩ : ∃ x : World, x = w16.alloc (.cells #[(.slice pa4 gg.pages.length pc4), (.slice wa4 gg.writes.length wc4), (.bool gg.down)] 25) := ⟨_, rfl⟩
    have bp : _ ∧ _ := ⟨heap_alloc_new w16 (.cells #[(.slice pa4 gg.pages.length pc4), (.slice wa4 gg.writes.length wc4), (.bool gg.down)] 25), below_new w16 (.cells #[(.slice pa4 gg.pages.length pc4), (.slice wa4 gg.writes.length wc4), (.bool gg.down)] 25)⟩
    rw [← hB4] at bp
    obtain ⟨g4, bN⟩ := bp
    have o5 := o4.keep bN
    replace g0 := block_keep g0 bN
    replace g1 := block_keep g1 bN
    replace g3 := block_keep g3 bN
    replace h0 := h0.keep bN
    replace h2 := h2.keep bN
    replace h3 := h3.keep bN
    replace h4 := h4.keep bN
    replace tp := tp.keep bN
    replace tq := tq.keep bN
    replace b13 := below_trans b13 bN
    replace b0 := below_trans b0 bN
    clear bN
    go_upto_region 12 with fail
    rw [← hB4]
    clear hB4
    obtain ⟨y00, y01, y02, f00, f01, f02⟩ := Box3.of g4
    obtain ⟨y10, y11, y12, f10, f11, f12⟩ := Box3.of g3
    go_upto_region 13 with fail
    clear y00 y01 y02 f00 f01 f02
    clear y10 y11 y12 f10 f11 f12
    clear h4
    obtain ⟨w18, hS⟩ : ∃ x : World, x = (((w17.setCell ⟨w14.heap.size, 0, none⟩ (.slice pa4 gg.pages.length pc4)).setCell ⟨w14.heap.size, 1, none⟩ (.slice wa4 gg.writes.length wc4)).setCell ⟨w14.heap.size, 2, none⟩ (.bool gg.down)) := ⟨_, rfl⟩
    rw [← hS]
    replace b0 := set3_below (β := w14.heap.size) (.slice pa4 gg.pages.length pc4) (.slice wa4 gg.writes.length wc4) (.bool gg.down) b0 (by omega)
    rw [← hS] at b0
    replace b13 := set3_below (β := w14.heap.size) (.slice pa4 gg.pages.length pc4) (.slice wa4 gg.writes.length wc4) (.bool gg.down) b13 (by omega)
    rw [← hS] at b13
    have h4 := (OffDisk.set3 (β := w14.heap.size) o5 rfl (.slice pa4 gg.pages.length pc4) (.slice wa4 gg.writes.length wc4) (.bool gg.down)).is
    rw [← hS] at h4
    clear o5
    replace g0 := (set3_ne (β := w14.heap.size) (.slice pa4 gg.pages.length pc4) (.slice wa4 gg.writes.length wc4) (.bool gg.down) (by omega)).trans g0
    rw [← hS] at g0
    replace g1 := (set3_ne (β := w14.heap.size) (.slice pa4 gg.pages.length pc4) (.slice wa4 gg.writes.length wc4) (.bool gg.down) (by omega)).trans g1
    rw [← hS] at g1
    replace g4 := (set3_ne (β := w14.heap.size) (.slice pa4 gg.pages.length pc4) (.slice wa4 gg.writes.length wc4) (.bool gg.down) (by omega)).trans g4
    rw [← hS] at g4
    replace g3 := Box3.set (x := (.slice pa4 gg.pages.length pc4)) (y := (.slice wa4 gg.writes.length wc4)) (z := (.bool gg.down)) g3
    rw [← hS] at g3
    replace h0 := H0.keep b0
    replace tp := TP.keep b0
    replace tq := TQ.keep b0
    replace h2 := H2.keep b13
    clear h3 hS
    go_upto_region 15 with fail
    go_cut [97] from 86 to 96 (fun vt wx => vt = .bool false ∧ Below w18.heap.size w18 wx)
    case first =>
      have HS : ∀ w', Below w18.heap.size w18 w' → w'.cell? ⟨w10.heap.size, 0, none⟩ = some (.slice pa2 f2.pages.length pc2) ∧ w'.cell? ⟨w10.heap.size, 1, none⟩ = some (.slice wa2 f2.writes.length wc2) ∧ w'.cell? ⟨w10.heap.size, 2, none⟩ = some (.bool f2.down) ∧ w'.cell? ⟨w14.heap.size, 0, none⟩ = some (.slice pa4 gg.pages.length pc4) ∧ w'.cell? ⟨w14.heap.size, 1, none⟩ = some (.slice wa4 gg.writes.length wc4) ∧ w'.cell? ⟨w14.heap.size, 2, none⟩ = some (.bool gg.down) := fun w' hb => ⟨(Box3.of (block_keep g1 hb)).c0, (Box3.of (block_keep g1 hb)).c1, (Box3.of (block_keep g1 hb)).c2, (Box3.of (block_keep g3 hb)).c0, (Box3.of (block_keep g3 hb)).c1, (Box3.of (block_keep g3 hb)).c2⟩
      go_region_held3 (fun w' => w'.cell? ⟨w10.heap.size, 0, none⟩ = some (.slice pa2 f2.pages.length pc2) ∧ w'.cell? ⟨w10.heap.size, 1, none⟩ = some (.slice wa2 f2.writes.length wc2) ∧ w'.cell? ⟨w10.heap.size, 2, none⟩ = some (.bool f2.down) ∧ w'.cell? ⟨w14.heap.size, 0, none⟩ = some (.slice pa4 gg.pages.length pc4) ∧ w'.cell? ⟨w14.heap.size, 1, none⟩ = some (.slice wa4 gg.writes.length wc4) ∧ w'.cell? ⟨w14.heap.size, 2, none⟩ = some (.bool gg.down))
        (first | exact HS _ (by with_reducible (repeat (first | assumption | exact Below.refl _ _ | refine below_alloc' ?_ | refine below_drew' ?_ | refine below_step (by assumption) ?_))))
        (first
          | (go_at_call 34; refine page_ts (d := f2) (IsDisk.keep h2 (by with_reducible (repeat (first | assumption | exact Below.refl _ _ | refine below_alloc' ?_ | refine below_drew' ?_ | refine below_step (by assumption) ?_)))) HRF ?_; intro pa15 pc15 w15 t15 b15)
          | (go_at_call 34; refine page_ts (d := gg) (IsDisk.keep h4 (by with_reducible (repeat (first | assumption | exact Below.refl _ _ | refine below_alloc' ?_ | refine below_drew' ?_ | refine below_step (by assumption) ?_)))) HRG' ?_; intro pa16 pc16 w16 t16 b16)
          | (go_at_call 26; refine sameb_ts (IsBytes.keep t15 (by with_reducible (repeat (first | assumption | exact Below.refl _ _ | refine below_alloc' ?_ | refine below_drew' ?_ | refine below_step (by assumption) ?_)))) (IsBytes.keep t16 (by with_reducible (repeat (first | assumption | exact Below.refl _ _ | refine below_alloc' ?_ | refine below_drew' ?_ | refine below_step (by assumption) ?_)))) (Lib.hid rfl) ?_; intro w17 b17))
      all_goals
        go_wp2
        go_meet
        case rel => exact ⟨rfl, by with_reducible (repeat (first | assumption | exact Below.refl _ _ | refine below_alloc' ?_ | refine below_drew' ?_ | refine below_step (by assumption) ?_))⟩
    case rest =>
      obtain ⟨rfl, bN⟩ := hcut
      replace g0 := block_keep g0 bN
      replace g1 := block_keep g1 bN
      replace g3 := block_keep g3 bN
      replace g4 := block_keep g4 bN
      replace h0 := h0.keep bN
      replace h2 := h2.keep bN
      replace h4 := h4.keep bN
      replace tp := tp.keep bN
      replace tq := tq.keep bN
      replace b13 := below_trans b13 bN
      replace b0 := below_trans b0 bN
      clear bN
      obtain ⟨y00, y01, y02, f00, f01, f02⟩ := Box3.of g1
      go_wp2_with fail
      refine (Sync_any _ f2 _ h2).mono ?_
      intro e w19 hres
      obtain ⟨pa5, pc5, wa5, wc5, rfl, h5, bN⟩ := hres.to HSF
      clear y00 y01 y02 f00 f01 f02
      replace g0 := block_keep g0 bN
      replace g1 := block_keep g1 bN
      replace g3 := block_keep g3 bN
      replace g4 := block_keep g4 bN
      replace h0 := h0.keep bN
      replace h2 := h2.keep bN
      replace h4 := h4.keep bN
      replace tp := tp.keep bN
      replace tq := tq.keep bN
      replace b13 := below_trans b13 bN
      replace b0 := below_trans b0 bN
      clear bN
      obtain ⟨w20, hB5⟩ : ∃ x : World, x = w19.alloc (.cells #[(.slice pa5 s.pages.length pc5), (.slice wa5 s.writes.length wc5), (.bool s.down)] 25) := ⟨_, rfl⟩
      have bp : _ ∧ _ := ⟨heap_alloc_new w19 (.cells #[(.slice pa5 s.pages.length pc5), (.slice wa5 s.writes.length wc5), (.bool s.down)] 25), below_new w19 (.cells #[(.slice pa5 s.pages.length pc5), (.slice wa5 s.writes.length wc5), (.bool s.down)] 25)⟩
      rw [← hB5] at bp
      obtain ⟨g5, bN⟩ := bp
      replace g0 := block_keep g0 bN
      replace g1 := block_keep g1 bN
      replace g3 := block_keep g3 bN
      replace g4 := block_keep g4 bN
      replace h0 := h0.keep bN
      replace h2 := h2.keep bN
      replace h4 := h4.keep bN
      replace h5 := h5.keep bN
      replace tp := tp.keep bN
      replace tq := tq.keep bN
      replace b13 := below_trans b13 bN
      replace b0 := below_trans b0 bN
      clear bN
      go_upto_region 18 with fail
      rw [← hB5]
      clear hB5
      obtain ⟨y00, y01, y02, f00, f01, f02⟩ := Box3.of g3
      go_wp2_with fail
      refine (Sync_any _ gg _ h4).mono ?_
      intro e w21 hres
      obtain ⟨pa6, pc6, wa6, wc6, rfl, h6, bN⟩ := hres.to HSG'
      clear y00 y01 y02 f00 f01 f02
      replace g0 := block_keep g0 bN
      replace g1 := block_keep g1 bN
      replace g3 := block_keep g3 bN
      replace g4 := block_keep g4 bN
      replace g5 := block_keep g5 bN
      replace h0 := h0.keep bN
      replace h2 := h2.keep bN
      replace h4 := h4.keep bN
      replace h5 := h5.keep bN
      replace tp := tp.keep bN
      replace tq := tq.keep bN
      replace b13 := below_trans b13 bN
      replace b0 := below_trans b0 bN
      clear bN
      obtain ⟨w22, hB6⟩ : ∃ x : World, x = w21.alloc (.cells #[(.slice pa6 s.pages.length pc6), (.slice wa6 s.writes.length wc6), (.bool s.down)] 25) := ⟨_, rfl⟩
      have bp : _ ∧ _ := ⟨heap_alloc_new w21 (.cells #[(.slice pa6 s.pages.length pc6), (.slice wa6 s.writes.length wc6), (.bool s.down)] 25), below_new w21 (.cells #[(.slice pa6 s.pages.length pc6), (.slice wa6 s.writes.length wc6), (.bool s.down)] 25)⟩
      rw [← hB6] at bp
      obtain ⟨g6, bN⟩ := bp
      replace g0 := block_keep g0 bN
      replace g1 := block_keep g1 bN
      replace g3 := block_keep g3 bN
      replace g4 := block_keep g4 bN
      replace g5 := block_keep g5 bN
      replace h0 := h0.keep bN
      replace h2 := h2.keep bN
      replace h4 := h4.keep bN
      replace h5 := h5.keep bN
      replace h6 := h6.keep bN
      replace tp := tp.keep bN
      replace tq := tq.keep bN
      replace b13 := below_trans b13 bN
      replace b0 := below_trans b0 bN
      clear bN
      go_upto_region 19 with fail
      rw [← hB6]
      clear hB6
      obtain ⟨y00, y01, y02, f00, f01, f02⟩ := Box3.of g5
      obtain ⟨y10, y11, y12, f10, f11, f12⟩ := Box3.of g6
      go_wp2_with fail
      refine same_ts h5 h6 (Lib.hid rfl) ?_
      intro w23 bN
      go_wp2
      go_ret
      exact ⟨rfl, below_trans b0 bN⟩
end Go.Proofs.Ytcembocnkndlhaa
/- The reference's walk: Copy. -/
namespace Go.Proofs.Ytcembocnkndlhaa
open Go.RowKit
theorem ownR_agree {w W : World} {base : Nat} {pv : Value} {L : List (List UInt8)} (h : OwnR w base pv L) (hag : ∀ i, base ≤ i → i < w.heap.size → W.heap[i]? = w.heap[i]?) (hm : L.length ≤ 9223372036854775807) (hl : ∀ l ∈ L, l.length ≤ 9223372036854775807) : IsPages W pv L := by
  obtain ⟨us, h1, h2, h3, h4⟩ := h
  exact OwnR.is (base := base) ⟨us, own_agree h1 hag, h2, fun i u l hu hll => ⟨⟨own_agree (h3 i u l hu hll).1.1 hag, (h3 i u l hu hll).1.2⟩, (h3 i u l hu hll).2⟩, h4⟩ hm hl
/-- What Copy's first statement leaves. -/
def CopyStart (wb : World) (d : Dk) (v3 : Value) (wx : World) : Prop :=
  ∃ (β : Nat) (va : Option Addr) (vc : Nat), v3 = .pointer (some ⟨β, 0, none⟩) ∧ wb.heap.size ≤ β ∧ wx.heap[β]? = some (.cells #[.slice va d.pages.length vc, .slice none 0 0, .bool d.down] 25 (0, 0)) ∧ (∀ W, Agree (fun i => i = β ∨ i < wb.heap.size) wx W → IsPages W (.slice va d.pages.length vc) d.pages) ∧ Below wb.heap.size wb wx
theorem step_bytes0 {w : World} {ops : Array Oper} {o : Oper} {a : Act} {K : Act → World → Prop} {Q : Exit → Act → World → Prop} {E : Prop} (hgd : o.guard = none) (s y : Operand) (ho : o.op = .call { callee := .builtin .append, args := #[s, y], argTypes := #[26, 26] })
    {g0 : Nat} {x : Value} {l : List UInt8} (hs : a.eval s = .slice (some ⟨g0, 0, none⟩) 0 0) (hblk : w.heap[g0]? = some (.cells #[] 5 (0, 0))) (hy : a.eval y = x) (hx : IsBytes w x l) (hl : l.length ≤ 100000000)
    (h : ∀ g cap w', OwnB w' g0 (.slice (some ⟨g, 0, none⟩) l.length cap) l → Below g0 w w' → K (a.put o.dst (.slice (some ⟨g, 0, none⟩) l.length cap)) w') : if Region.wanted o (yielded ops a.tmps) = true then Oper.wp Try.prog o a w K Q else E := by
  have hw : Region.wanted o (yielded ops a.tmps) = true := by simp [Region.wanted, hgd]
  rw [if_pos hw]
  obtain ⟨g, cap, w', hr, h2, h3⟩ := run_bytes0 (ty := o.type) hblk hx hl
  unfold Oper.wp execOp
  simp only [ho, resolve, invoke, builtin, Sem.run_bind, Sem.run_pure, Result.andThen_ok, List.map_toArray, List.map_cons, List.map_nil, hs, hy, hr]
  exact h g cap w' h2 h3
set_option maxHeartbeats 4000000 in
set_option maxRecDepth 100000 in
theorem Copy_any (v : Value) (d : Dk) (w : World) (h : IsDisk w v d) (hl : d.writes.length ≤ 100000000) (hpl : d.pages.length ≤ 1000) (HPL : Hid (∀ p ∈ d.pages, p.length ≤ 1000000)) (HWL : Hid (∀ x ∈ d.writes, x.data.length ≤ 1000000)) : Calls Try.prog 37 #[v] w (DiskRet d w) := by
  have h0 := h
  obtain ⟨pa, pc, wa, wcp, rfl, hp, hw, m1, m2, m3⟩ := h.shape
  obtain ⟨C, hC⟩ : ∃ C, C = Obj.cells #[.slice pa d.pages.length pc, .slice wa d.writes.length wcp, .bool d.down] 25 := ⟨_, rfl⟩
  obtain ⟨Z, hZ⟩ : ∃ Z, Z = Obj.cells #[.slice none 0 0, .slice none 0 0, .bool false] 25 := ⟨_, rfl⟩
  obtain ⟨wb, hwb⟩ : ∃ x : World, x = (w.alloc C).alloc Z := ⟨_, rfl⟩
  have b1 := below_new w C
  have b2 : Below (w.alloc C).heap.size (w.alloc C) wb := by subst hwb; exact below_new _ _
  have b0 := below_trans b1 b2
  have g0 : wb.heap[w.heap.size]? = some (.cells #[.slice pa d.pages.length pc, .slice wa d.writes.length wcp, .bool d.down] 25 (0, 0)) := by
    subst hC; exact box_at b2
  have g1 : wb.heap[w.heap.size + 1]? = some (.cells #[.slice none 0 0, .slice none 0 0, .bool false] 25 (0, 0)) := by
    subst hwb hZ
    have := heap_alloc_new (w.alloc C) (.cells #[.slice none 0 0, .slice none 0 0, .bool false] 25)
    simpa using this
  have hsb1 : wb.heap.size ≤ w.heap.size + 2 := by subst hwb; simp
  have hsb2 : w.heap.size + 2 ≤ wb.heap.size := by subst hwb; simp
  go_enter Try.func37, Try.ntmps37
  go_upto_region 1 with fail
  rw [← hC, ← hZ, ← hwb]
  clear hC hZ hwb b2
  have hpb := hp.keep b0
  have HALL0 : ∀ W, Below wb.heap.size wb W → W.cell? ⟨w.heap.size, 0, none⟩ = some (.slice pa d.pages.length pc) ∧ W.cell? ⟨w.heap.size, 2, none⟩ = some (.bool d.down) := fun W hW => ⟨(Box3.of (block_keep g0 hW)).c0, (Box3.of (block_keep g0 hW)).c2⟩
  go_cut [3] from 5 to 10 (fun v3 wx => Hid (CopyStart wb d v3 wx))
  case first =>
    refine wp_region_noPanic ?_
    refine wp_region_late (fun w' => w'.cell? ⟨w.heap.size, 0, none⟩ = some (.slice pa d.pages.length pc) ∧ w'.cell? ⟨w.heap.size, 2, none⟩ = some (.bool d.down)) 7 (by kernel_rfl) (HALL0 _ (below_drew' (Below.refl _ _))) (fun hHeld => ?_)
    refine any_take (by kernel_rfl) (i := 0) (oi := _) (v := ?_) rfl rfl (by kernel_rfl) (by kernel_rfl) (by kernel_rfl) (fun _ _ _ h => h) (Or.inl ⟨by rfl, ?_⟩) hHeld ?_
    rotate_left
    · intro w' hSw; try dsimp only at hSw
      go_simp
      try with_reducible rfl
    try simp only [puts, gets]
    refine any_take (by kernel_rfl) (i := 1) (oi := _) (v := ?_) rfl rfl (by kernel_rfl) (by kernel_rfl) (by kernel_rfl) (fun _ _ _ h => h) (Or.inl ⟨by rfl, ?_⟩) hHeld ?_
    rotate_left
    · intro w' hSw; try dsimp only at hSw
      go_simp
      try with_reducible rfl
    try simp only [puts, gets]
    refine any_take (by kernel_rfl) (i := 3) (oi := _) (v := ?_) rfl rfl (by kernel_rfl) (by kernel_rfl) (by kernel_rfl) (fun _ _ _ h => h) (Or.inl ⟨by rfl, ?_⟩) hHeld ?_
    rotate_left
    · intro w' hSw; try dsimp only at hSw
      go_simp
      try with_reducible rfl
    try simp only [puts, gets]
    refine any_take (by kernel_rfl) (i := 4) (oi := _) (v := ?_) rfl rfl (by kernel_rfl) (by kernel_rfl) (by kernel_rfl) (fun _ _ _ h => h) (Or.inl ⟨by rfl, ?_⟩) hHeld ?_
    rotate_left
    · intro w' hSw; try dsimp only at hSw
      go_simp
      try with_reducible rfl
    try simp only [puts, gets]
    refine any_two (i := 2) (j := 6) (by kernel_rfl) rfl rfl rfl rfl (fun K hK => ?_) (fun K hK => ?_)
    · go_simp
      go_at_call 60
      refine rpages_ts (hpb.keep (below_drew' (Below.refl _ _))) (by omega) HPL ?_
      intro pv w5 hO5 b5
      have hO5 : OwnR w5 wb.heap.size pv d.pages := hO5
      have b5 : Below wb.heap.size wb w5 := below_undrew b5
      obtain ⟨va, vc, rfl, hvc⟩ := hO5.len
      refine hK.out _ _ ?_ (fun hHeld => ?_)
      · exact HALL0 _ b5
      clear hK K
      try simp only [puts, gets]
      refine any_take (by kernel_rfl) (i := 5) (oi := _) (v := ?_) rfl rfl (by kernel_rfl) (by kernel_rfl) (by kernel_rfl) (fun _ _ _ h => h) (Or.inl ⟨by rfl, ?_⟩) hHeld ?_
      rotate_left
      · intro w' hSw; try dsimp only at hSw
        go_simp
        try with_reducible rfl
      try simp only [puts, gets]
      refine any_next (i := 6) (by kernel_rfl) rfl rfl (fun K hK => ?_)
      go_simp
      refine hK.out _ _ ?_ (fun hHeld => ?_)
      · exact HALL0 _ (below_alloc' b5)
      clear hK K
      try simp only [puts, gets]
      refine any_late (i := 7) (by kernel_rfl) rfl rfl (fun K hK => ?_)
      go_simp
      refine hK.out _ _ ?_
      clear hK K
      try simp only [puts, gets]
      refine any_done (by kernel_rfl) ?_ _
      refine NoPanic.normal ?_
      go_wp2
      go_meet
      case rel =>
        refine Lib.hid ⟨_, va, vc, rfl, b5.size, heap_alloc_new w5 _, fun W hW => ownR_agree hO5 (fun i h1 h2 => ?_) (by omega) (fun l hl => by have := HPL.out l hl; omega), below_alloc' b5⟩
        exact (hW i (by simp; omega) (by omega)).trans (Below.heap_alloc _ _ _ h2)
    · go_simp
      refine hK.out _ _ ?_ (fun hHeld => ?_)
      · exact HALL0 _ (below_alloc' (below_drew' (Below.refl _ _)))
      clear hK K
      try simp only [puts, gets]
      refine any_next (i := 2) (by kernel_rfl) rfl rfl (fun K hK => ?_)
      go_simp
      go_at_call 60
      refine rpages_ts (hpb.keep (below_alloc' (below_drew' (Below.refl _ _)))) (by omega) HPL ?_
      intro pv w5 hO5 b5
      have hO5 : OwnR w5 (wb.drew.alloc (.cells #[.slice none 0 0, .slice none 0 0, .bool false] 25)).heap.size pv d.pages := hO5
      rw [show (wb.drew.alloc (.cells #[.slice none 0 0, .slice none 0 0, .bool false] 25)).heap.size = wb.heap.size + 1 from by simp] at hO5
      have gB : w5.heap[wb.heap.size]? = some (.cells #[.slice none 0 0, .slice none 0 0, .bool false] 25 (0, 0)) := block_keep (heap_alloc_new wb.drew (.cells #[.slice none 0 0, .slice none 0 0, .bool false] 25)) b5
      have b5 : Below wb.heap.size wb w5 := below_undrew (below_trans (below_new wb.drew (.cells #[.slice none 0 0, .slice none 0 0, .bool false] 25)) b5)
      obtain ⟨va, vc, rfl, hvc⟩ := hO5.len
      obtain ⟨u0, u1, u2, uf0, uf1, uf2⟩ := Box3.of gB
      refine hK.out _ _ ?_ (fun hHeld => ?_)
      · exact HALL0 _ b5
      clear hK K
      try simp only [puts, gets]
      refine any_take (by kernel_rfl) (i := 5) (oi := _) (v := ?_) rfl rfl (by kernel_rfl) (by kernel_rfl) (by kernel_rfl) (fun _ _ _ h => h) (Or.inl ⟨by rfl, ?_⟩) hHeld ?_
      rotate_left
      · intro w' hSw; try dsimp only at hSw
        go_simp
        try with_reducible rfl
      try simp only [puts, gets]
      refine any_late (i := 7) (by kernel_rfl) rfl rfl (fun K hK => ?_)
      go_simp
      refine hK.out _ _ ?_
      clear hK K
      try simp only [puts, gets]
      refine any_done (by kernel_rfl) ?_ _
      refine NoPanic.normal ?_
      go_wp2
      go_meet
      case rel =>
        refine Lib.hid ⟨_, va, vc, rfl, Nat.le_refl _, Box3.set gB, fun W hW => ownR_agree hO5 (fun i h1 h2 => ?_) (by omega) (fun l hl => by have := HPL.out l hl; omega), set3_below _ _ _ b5 (Nat.le_refl _)⟩
        exact (hW i (by simpa [World.setCell] using h2) (by omega)).trans (set3_ne _ _ _ (by omega))
  case rest =>
    obtain ⟨β, va, vc, rfl, hβ, gβ, hPG, bx⟩ := hcut.out
    have bw := below_trans b0 bx
    have g0c := block_keep g0 bx
    have g1c := block_keep g1 bx
    have hlβ := block_lt gβ
    have hsx := bx.size
    obtain ⟨y0, y1, y2, -, -, -⟩ := Box3.of g0c
    clear hp hpb h0 h
    go_wp2
    go_loopw [4] (fun i wr => ∃ (j : Nat) (wv : Value), j ≤ d.writes.length ∧ i = .int .i64 j ∧ wr.heap[β]? = some (.cells #[.slice va d.pages.length vc, wv, .bool d.down] 25 (0, 0)) ∧ OwnW wr wc.heap.size wv (d.writes.take j) ∧ Hid (Agree (fun i => i = β) wc wr) ∧ Below w.heap.size w wr ∧ wc.heap.size ≤ wr.heap.size) (fun i _ => d.writes.length - (intOf i).toNat)
    case atStart => exact ⟨0, _, Nat.zero_le _, rfl, gβ, OwnW.nil _ _, Lib.hid (Agree.refl _ _), bw, Nat.le_refl _⟩
    case round =>
      obtain ⟨j, wv, hj, rfl, hgr, hOr, hag, hbr, hsr⟩ := hrel
      obtain ⟨wo, rfl⟩ : ∃ wo : World, wo = wr := ⟨_, rfl⟩
      obtain ⟨xa, xc, rfl, hxc⟩ := hOr.len
      obtain ⟨z0, z1, z2, zf0, zf1, zf2⟩ := Box3.of hgr
      have g0r := (hag.out w.heap.size (by omega) (by omega)).trans g0c
      clear y0 y1 y2
      obtain ⟨y0, y1, y2, -, -, -⟩ := Box3.of g0r
      have hTl : (d.writes.take j).length = j := by rw [List.length_take]; omega
      have HTL := Lib.hid hTl
      by_cases hlt : j < d.writes.length
      · obtain ⟨b, off, da, dc, rfl, c0, c1, hB⟩ := hw.at_ (List.getElem?_eq_getElem hlt)
        have HM := Lib.hid (HWL.out d.writes[j] (List.getElem_mem hlt))
        have HT := Lib.hid (List.take_succ_eq_append_getElem hlt)
        have hTb : (d.writes.take j).length ≤ 1000000000 := by omega
        have HC0 : ∀ W, Below w.heap.size w W → W.cell? ⟨b, off + j * 2, none⟩ = some (.int .i64 d.writes[j].at_) := fun W hW => cell_keep hW c0
        have HC1 : ∀ W, Below w.heap.size w W → W.cell? ⟨b, off + j * 2 + 1, none⟩ = some (.slice da d.writes[j].data.length dc) := fun W hW => cell_keep hW c1
        have HB := fun W (hW : Below w.heap.size w W) => IsBytes.keep hB hW
        generalize d.writes[j] = x at *
        generalize d.writes.take j = T at *
        clear c0 c1 hTl
        have hI0 : (0 : Int) ≤ (j : Int) := by omega
        have hI1 : (j : Int) < (d.writes.length : Int) := by omega
        have hxl : x.data.length ≤ 100000000 := by have := HM.out; omega
        have HALL2 : ∀ W, Below wc.heap.size wo W → W.cell? ⟨β, 1, none⟩ = some (.slice xa T.length xc) ∧ W.cell? ⟨w.heap.size, 1, none⟩ = some (.slice (some ⟨b, off, none⟩) d.writes.length wcp) ∧ W.cell? ⟨b, off + j * 2, none⟩ = some (.int .i64 x.at_) ∧ W.cell? ⟨b, off + j * 2 + 1, none⟩ = some (.slice da x.data.length dc) := fun W hW =>
          ⟨(hW.cell (p := ⟨β, 1, none⟩) hlβ).trans z1, (hW.cell (p := ⟨w.heap.size, 1, none⟩) (by simp; omega)).trans y1, HC0 W (hbr.trans (hW.mono (by omega))), HC1 W (hbr.trans (hW.mono (by omega)))⟩
        have HALL : ∀ W, Below wo.heap.size wo W → W.cell? ⟨β, 1, none⟩ = some (.slice xa T.length xc) ∧ W.cell? ⟨w.heap.size, 1, none⟩ = some (.slice (some ⟨b, off, none⟩) d.writes.length wcp) ∧ W.cell? ⟨b, off + j * 2, none⟩ = some (.int .i64 x.at_) ∧ W.cell? ⟨b, off + j * 2 + 1, none⟩ = some (.slice da x.data.length dc) := fun W hW => HALL2 W (hW.mono hsr)
        have HF2 : ∀ W, Below wc.heap.size wo W → W.frozen? ⟨β, 1, none⟩ = false := fun W hW => (hW.frozen (p := ⟨β, 1, none⟩) hlβ).trans zf1
        clear HALL0
        go_wp2
        refine wp_region_noPanic ?_
        refine wp_region_late (fun w' => w'.cell? ⟨β, 1, none⟩ = some (.slice xa T.length xc) ∧ w'.cell? ⟨w.heap.size, 1, none⟩ = some (.slice (some ⟨b, off, none⟩) d.writes.length wcp) ∧ w'.cell? ⟨b, off + j * 2, none⟩ = some (.int .i64 x.at_) ∧ w'.cell? ⟨b, off + j * 2 + 1, none⟩ = some (.slice da x.data.length dc)) 20 (by kernel_rfl) (HALL _ (below_drew' (Below.refl _ _))) (fun hHeld => ?_)
        refine any_take (by kernel_rfl) (i := 0) (oi := _) (v := ?_) rfl rfl (by kernel_rfl) (by kernel_rfl) (by kernel_rfl) (fun _ _ _ h => h) (Or.inl ⟨by rfl, ?_⟩) hHeld ?_
        rotate_left
        · intro w' hSw; try dsimp only at hSw
          go_simp
          try with_reducible rfl
        try simp only [puts, gets]
        refine any_take (by kernel_rfl) (i := 1) (oi := _) (v := ?_) rfl rfl (by kernel_rfl) (by kernel_rfl) (by kernel_rfl) (fun _ _ _ h => h) (Or.inl ⟨by rfl, ?_⟩) hHeld ?_
        rotate_left
        · intro w' hSw; try dsimp only at hSw
          go_simp
          try with_reducible rfl
        try simp only [puts, gets]
        refine any_take (by kernel_rfl) (i := 2) (oi := _) (v := ?_) rfl rfl (by kernel_rfl) (by kernel_rfl) (by kernel_rfl) (fun _ _ _ h => h) (Or.inl ⟨by rfl, ?_⟩) hHeld ?_
        rotate_left
        · intro w' hSw; try dsimp only at hSw
          go_simp
          try with_reducible rfl
        try simp only [puts, gets]
        refine any_take (by kernel_rfl) (i := 3) (oi := _) (v := ?_) rfl rfl (by kernel_rfl) (by kernel_rfl) (by kernel_rfl) (fun _ _ _ h => h) (Or.inl ⟨by rfl, ?_⟩) hHeld ?_
        rotate_left
        · intro w' hSw; try dsimp only at hSw
          go_simp
          try with_reducible rfl
        try simp only [puts, gets]
        refine any_take (by kernel_rfl) (i := 4) (oi := _) (v := ?_) rfl rfl (by kernel_rfl) (by kernel_rfl) (by kernel_rfl) (fun _ _ _ h => h) (Or.inl ⟨by rfl, ?_⟩) hHeld ?_
        rotate_left
        · intro w' hSw; try dsimp only at hSw
          go_simp
          try with_reducible rfl
        try simp only [puts, gets]
        refine any_take (by kernel_rfl) (i := 5) (oi := _) (v := ?_) rfl rfl (by kernel_rfl) (by kernel_rfl) (by kernel_rfl) (fun _ _ _ h => h) (Or.inl ⟨by rfl, ?_⟩) hHeld ?_
        rotate_left
        · intro w' hSw; try dsimp only at hSw
          go_simp
          try with_reducible rfl
        try simp only [puts, gets]
        refine any_take (by kernel_rfl) (i := 6) (oi := _) (v := ?_) rfl rfl (by kernel_rfl) (by kernel_rfl) (by kernel_rfl) (fun _ _ _ h => h) (Or.inl ⟨by rfl, ?_⟩) hHeld ?_
        rotate_left
        · intro w' hSw; try dsimp only at hSw
          go_simp
          try with_reducible rfl
        try simp only [puts, gets]
        refine any_take (by kernel_rfl) (i := 7) (oi := _) (v := ?_) rfl rfl (by kernel_rfl) (by kernel_rfl) (by kernel_rfl) (fun _ _ _ h => h) (Or.inl ⟨by rfl, ?_⟩) hHeld ?_
        rotate_left
        · intro w' hSw; try dsimp only at hSw
          go_simp
          try with_reducible rfl
        try simp only [puts, gets]
        refine any_take (by kernel_rfl) (i := 9) (oi := _) (v := ?_) rfl rfl (by kernel_rfl) (by kernel_rfl) (by kernel_rfl) (fun _ _ _ h => h) (Or.inl ⟨by rfl, ?_⟩) hHeld ?_
        rotate_left
        · intro w' hSw; try dsimp only at hSw
          go_simp
          try with_reducible rfl
        try simp only [puts, gets]
        refine any_take (by kernel_rfl) (i := 10) (oi := _) (v := ?_) rfl rfl (by kernel_rfl) (by kernel_rfl) (by kernel_rfl) (fun _ _ _ h => h) (Or.inl ⟨by rfl, ?_⟩) hHeld ?_
        rotate_left
        · intro w' hSw; try dsimp only at hSw
          go_simp
          try with_reducible rfl
        try simp only [puts, gets]
        refine any_take (by kernel_rfl) (i := 11) (oi := _) (v := ?_) rfl rfl (by kernel_rfl) (by kernel_rfl) (by kernel_rfl) (fun _ _ _ h => h) (Or.inl ⟨by rfl, ?_⟩) hHeld ?_
        rotate_left
        · intro w' hSw; try dsimp only at hSw
          go_simp
          try with_reducible rfl
        try simp only [puts, gets]
        refine any_take (by kernel_rfl) (i := 12) (oi := _) (v := ?_) rfl rfl (by kernel_rfl) (by kernel_rfl) (by kernel_rfl) (fun _ _ _ h => h) (Or.inl ⟨by rfl, ?_⟩) hHeld ?_
        rotate_left
        · intro w' hSw; try dsimp only at hSw
          go_simp
          try with_reducible rfl
        try simp only [puts, gets]
        refine any_take (by kernel_rfl) (i := 13) (oi := _) (v := ?_) rfl rfl (by kernel_rfl) (by kernel_rfl) (by kernel_rfl) (fun _ _ _ h => h) (Or.inl ⟨by rfl, ?_⟩) hHeld ?_
        rotate_left
        · intro w' hSw; try dsimp only at hSw
          go_simp
          try with_reducible rfl
        try simp only [puts, gets]
        refine any_take (by kernel_rfl) (i := 14) (oi := _) (v := ?_) rfl rfl (by kernel_rfl) (by kernel_rfl) (by kernel_rfl) (fun _ _ _ h => h) (Or.inl ⟨by rfl, ?_⟩) hHeld ?_
        rotate_left
        · intro w' hSw; try dsimp only at hSw
          go_simp
          try with_reducible rfl
        try simp only [puts, gets]
        refine any_next (i := 8) (by kernel_rfl) rfl rfl (fun K hK => ?_)
        go_simp
        refine hK.out _ _ ?_ (fun hHeld => ?_)
        · exact HALL _ (below_alloc' (below_drew' (Below.refl _ _)))
        clear hK K
        try simp only [puts, gets]
        refine any_next (i := 15) (by kernel_rfl) rfl rfl (fun K hK => ?_)
        refine step_bytes0 rfl (.tmp 26) (.tmp 32) (by rfl) (g0 := wo.heap.size) (by rfl) (heap_alloc_new wo.drew _) (by rfl) (HB _ (below_trans hbr (below_alloc' (below_drew' (Below.refl _ _))))) hxl ?_
        intro g c wF hF bF
        have bF : Below wo.heap.size wo wF := below_undrew (((Below.refl wo.drew.heap.size wo.drew).alloc (Nat.le_refl _) _).trans bF)
        refine hK.out _ _ ?_ (fun hHeld => ?_)
        · exact HALL _ bF
        clear hK K
        try simp only [puts, gets]
        refine any_take (by kernel_rfl) (i := 16) (oi := _) (v := ?_) rfl rfl (by kernel_rfl) (by kernel_rfl) (by kernel_rfl) (fun _ _ _ h => h) (Or.inl ⟨by rfl, ?_⟩) hHeld ?_
        rotate_left
        · intro w' hSw; try dsimp only at hSw
          go_simp
          try with_reducible rfl
        try simp only [puts, gets]
        refine any_next (i := 17) (by kernel_rfl) rfl rfl (fun K hK => ?_)
        go_simp
        refine hK.out _ _ ?_ (fun hHeld => ?_)
        · exact HALL _ (below_alloc' bF)
        clear hK K
        try simp only [puts, gets]
        refine any_next (i := 18) (by kernel_rfl) rfl rfl (fun K hK => ?_)
        refine step_pushW (wr := wo) (x := x) (g1 := wF.heap.size) rfl (.tmp 19) (.tmp 35) (by rfl) (by rfl) (by rfl) hOr (below_alloc' bF) (OwnB.keep hF (below_new _ _)) hsr (heap_alloc_new wF _) hTb ?_
        intro g' cap' w6 hO6 b6
        have f6 := HF2 _ b6
        refine hK.out _ _ ?_ (fun hHeld => ?_)
        · exact HALL2 _ b6
        clear hK K
        try simp only [puts, gets]
        refine any_take (by kernel_rfl) (i := 19) (oi := _) (v := ?_) rfl rfl (by kernel_rfl) (by kernel_rfl) (by kernel_rfl) (fun _ _ _ h => h) (Or.inl ⟨by rfl, ?_⟩) hHeld ?_
        rotate_left
        · intro w' hSw; try dsimp only at hSw
          go_simp
          try with_reducible rfl
        try simp only [puts, gets]
        refine any_late (i := 20) (by kernel_rfl) rfl rfl (fun K hK => ?_)
        go_simp
        refine hK.out _ _ ?_
        clear hK K
        try simp only [puts, gets]
        refine any_done (by kernel_rfl) ?_ _
        refine NoPanic.normal ?_
        go_wp2
        go_roundw
        case rel =>
          have hg6 : w6.heap[β]? = some (.cells #[.slice va d.pages.length vc, .slice xa T.length xc, .bool d.down] 25 (0, 0)) := (b6.block _ hlβ).trans hgr
          refine ⟨j + 1, _, by omega, by go_num, box3_set1 hg6, ?_, Lib.hid ?_, (hbr.trans (b6.mono (by omega))).setCell (p := ⟨β, 1, none⟩) (by simp; omega) _, by have := b6.size; simp [World.setCell]; omega⟩
          · rw [HT.out]
            exact hO6.store (p := ⟨β, 1, none⟩) hlβ _
          · intro i hi hB
            exact (Below.heap_setCell _ _ _ _ hB).trans ((b6.block i hi).trans (hag.out i hi hB))
        case measure => simp [intOf]; omega
      · have e : j = d.writes.length := by omega
        subst e
        rw [List.take_length] at hOr
        clear hTl
        have g1r := (hag.out (w.heap.size + 1) (by omega) (by omega)).trans g1c
        obtain ⟨u0, u1, u2, uf0, uf1, uf2⟩ := Box3.of g1r
        go_wp2
        refine bodyPost_ret (v := .agg #[.slice va d.pages.length vc, .slice xa d.writes.length xc, .bool d.down]) (by simp [results, Try.results37, go_sem, u0, u1, u2]) rfl ?_
        have rF := ((hOr.store (p := ⟨w.heap.size + 1, 0, none⟩) (by simp; omega) (.slice va d.pages.length vc)).store (p := ⟨w.heap.size + 1, 1, none⟩) (by simp; omega) (.slice xa d.writes.length xc)).store (p := ⟨w.heap.size + 1, 2, none⟩) (by simp; omega) (.bool d.down)
        refine ⟨_, rfl, ⟨_, _, rfl, hPG _ fun i hi hB => ?_, rF.is (by omega) fun x hx => by have := HWL.out x hx; omega⟩, set3_below (β := w.heap.size + 1) _ _ _ hbr (by omega)⟩
        have h1 : ¬ i = β := fun e => hB (.inl e)
        have h2 : ¬ i < wb.heap.size := fun e => hB (.inr e)
        exact (set3_ne _ _ _ (by omega)).trans (hag.out i hi h1)

end Go.Proofs.Ytcembocnkndlhaa
/- The law's function 'written': the first writes of a disk, made anew. -/
namespace Go.Proofs.Ytcembocnkndlhaa
open Go.RowKit
theorem writeoff_ts {B : Nat → Prop} {v : Value} {d d' : Dk} {k : Int} {bv : Value} {l : List UInt8} {w : World} {Q : Ending → World → Prop} (ho : OffDisk B w v d) (hB : ∀ β, B β → β < w.heap.size) (hb : IsBytes w bv l) (hl : d.writes.length ≤ 100000000) (hr : Hid (writeD d k l = (d', 0)))
    (q : ∀ pa pc wa wc w', OffDisk B w' (.agg #[.slice pa d'.pages.length pc, .slice wa d'.writes.length wc, .bool d'.down]) d' → Below w.heap.size w w' → Q (.returned (.tuple #[.agg #[.slice pa d'.pages.length pc, .slice wa d'.writes.length wc, .bool d'.down], .int .i64 0])) w') : Calls Try.prog 19 #[v, .int .i64 k, bv] w Q :=
  (Write_off B v d k bv l w ho hB hb hl).mono fun e w' hres => by
    obtain ⟨pa, pc, wa, wc, rfl, hD, hBb⟩ := hres.to hr
    exact q pa pc wa wc w' hD hBb
theorem formed_take {d : Dk} (hf : formed d = true) (j : Nat) : formed ⟨d.pages, d.writes.take j, false⟩ = true := by
  obtain ⟨h1, h2, h3, h4⟩ := (formed_iff d).1 hf
  exact (formed_iff _).2 ⟨h1, h2, fun x hx => h3 x (List.mem_of_mem_take hx), fun e => by cases e⟩
theorem write_take {d : Dk} (hf : formed d = true) {j : Nat} (hj : j < d.writes.length) : writeD ⟨d.pages, d.writes.take j, false⟩ d.writes[j].at_ d.writes[j].data = (⟨d.pages, d.writes.take (j + 1), false⟩, 0) := by
  obtain ⟨h1, h2, h3, h4⟩ := (formed_iff d).1 hf
  obtain ⟨a, b, c⟩ := h3 d.writes[j] (List.getElem_mem hj)
  rw [writeD_ok (formed_take hf j) rfl a b (by omega), full_self c, List.take_succ_eq_append_getElem hj]
theorem OffDisk.shrink {B B' : Nat → Prop} {w : World} {v : Value} {d : Dk} (h : OffDisk B' w v d) (hs : ∀ i, B i → B' i) : OffDisk B w v d := by
  obtain ⟨pv, wv, ps, hv, hl, hAll⟩ := h
  exact ⟨pv, wv, ps, hv, hl, fun W hW => hAll W fun i hi hB => hW i hi fun e => hB (hs i e)⟩
theorem OffDisk.widen {B B' : Nat → Prop} {w w' : World} {v : Value} {d : Dk} (h : OffDisk B w v d) (hb : Below w.heap.size w w') (hs : ∀ i, i < w.heap.size → B' i → B i) : OffDisk B' w' v d := by
  obtain ⟨pv, wv, ps, hv, hl, hAll⟩ := h
  exact ⟨pv, wv, ps, hv, hl, fun W hW => hAll W fun i hi hB => (hW i (Nat.lt_of_lt_of_le hi hb.size) fun e => hB (hs i hi e)).trans (hb.block i hi)⟩
set_option maxHeartbeats 4000000 in
set_option maxRecDepth 100000 in
theorem written_any (v : Value) (d : Dk) (m : Nat) (w : World) (h : IsDisk w v d) (hf : formed d = true) (hwl : d.writes.length ≤ 1000) (hm : m ≤ d.writes.length) : Calls Try.prog 36 #[v, .int .i64 m] w (DiskRet ⟨d.pages, d.writes.take m, false⟩ w) := by
  have HF := Lib.hid hf
  clear hf
  obtain ⟨pa, pc, wa, wcp, rfl, hp, hw, m1, m2, m3⟩ := h.shape
  obtain ⟨C, hC⟩ : ∃ C, C = Obj.cells #[.slice pa d.pages.length pc, .slice wa d.writes.length wcp, .bool d.down] 25 := ⟨_, rfl⟩
  obtain ⟨Z, hZ⟩ : ∃ Z, Z = Obj.cells #[.slice none 0 0, .slice none 0 0, .bool false] 25 := ⟨_, rfl⟩
  obtain ⟨Y, hY⟩ : ∃ Y, Y = Obj.cells #[.slice pa d.pages.length pc, .slice none 0 0, .bool false] 25 := ⟨_, rfl⟩
  obtain ⟨wb, hwb⟩ : ∃ x : World, x = ((w.alloc C).alloc Z).alloc Y := ⟨_, rfl⟩
  have b1 := below_new w C
  have b2 : Below (w.alloc C).heap.size (w.alloc C) wb := by subst hwb; exact below_trans (below_new _ _) (below_new _ _)
  have b0 := below_trans b1 b2
  have g0 : wb.heap[w.heap.size]? = some (.cells #[.slice pa d.pages.length pc, .slice wa d.writes.length wcp, .bool d.down] 25 (0, 0)) := by
    subst hC; exact box_at b2
  have g1 : wb.heap[w.heap.size + 1]? = some (.cells #[.slice none 0 0, .slice none 0 0, .bool false] 25 (0, 0)) := by
    subst hwb hZ
    have := heap_alloc_new (w.alloc C) (.cells #[.slice none 0 0, .slice none 0 0, .bool false] 25)
    exact block_keep (by simpa using this) (below_new _ _)
  have g2 : wb.heap[w.heap.size + 1 + 1]? = some (.cells #[.slice pa d.pages.length pc, .slice none 0 0, .bool false] 25 (0, 0)) := by
    subst hwb hY
    have := heap_alloc_new ((w.alloc C).alloc Z) (.cells #[.slice pa d.pages.length pc, .slice none 0 0, .bool false] 25)
    simpa using this
  have hsb : w.heap.size + 1 + 1 < wb.heap.size := by subst hwb; simp
  have o0 : OffDisk (fun i => i = w.heap.size + 1 ∨ i = w.heap.size + 1 + 1) wb (.agg #[.slice pa d.pages.length pc, .slice none (d.writes.take 0).length 0, .bool false]) ⟨d.pages, d.writes.take 0, false⟩ :=
    IsDisk.off (w := w) ⟨_, _, rfl, hp, IsWrites.nil w⟩ b0 (by rintro _ (rfl | rfl) <;> omega)
  have O0 := Lib.hid o0
  clear o0
  go_enter Try.func36, Try.ntmps36
  go_upto_region 1 with fail
  rw [← hC, ← hZ]
  obtain ⟨wz, hwz⟩ : ∃ x : World, x = (w.alloc C).alloc Z := ⟨_, rfl⟩
  have gz : wz.heap[w.heap.size]? = some (.cells #[.slice pa d.pages.length pc, .slice wa d.writes.length wcp, .bool d.down] 25 (0, 0)) := by
    subst hwz hC; exact box_at (below_new _ _)
  have hsz : wz.heap.size = w.heap.size + 1 + 1 := by subst hwz; simp
  rw [← hwz]
  rw [← hwz] at hwb
  obtain ⟨y0, y1, y2, -, -, -⟩ := Box3.of gz
  have HSZ := Lib.hid hsz
  clear hsz hwz gz
  go_upto_region 2 with fail
  clear y0 y1 y2
  rw [← hY, ← hwb, HSZ.out]
  clear hC hZ hY hwb HSZ b1 b2 h hp
  go_wp2
  go_loopw [6] (fun i wr => ∃ (j : Nat) (p1 : Option Addr) (c1 : Nat) (p2 : Option Addr) (c2 : Nat), j ≤ m ∧ i = .int .i64 j ∧ wr.heap[w.heap.size + 1 + 1]? = some (.cells #[.slice p1 d.pages.length c1, .slice p2 (d.writes.take j).length c2, .bool false] 25 (0, 0)) ∧ Hid (OffDisk (fun i => i = w.heap.size + 1 ∨ i = w.heap.size + 1 + 1) wr (.agg #[.slice p1 d.pages.length c1, .slice p2 (d.writes.take j).length c2, .bool false]) ⟨d.pages, d.writes.take j, false⟩) ∧ Below (w.heap.size + 1 + 1) wb wr ∧ wb.heap.size ≤ wr.heap.size) (fun i _ => m - (intOf i).toNat)
  case atStart => exact ⟨0, _, _, _, _, Nat.zero_le _, rfl, g2, O0, Below.refl _ _, Nat.le_refl _⟩
  case round =>
    obtain ⟨j, p1, c1, p2, c2, hj, rfl, hgr, hO, hbr, hsr⟩ := hrel
    obtain ⟨wo, rfl⟩ : ∃ wo : World, wo = wr := ⟨_, rfl⟩
    have hO := hO.out
    have g0r := (hbr.block w.heap.size (by omega)).trans g0
    have g1r := (hbr.block (w.heap.size + 1) (by omega)).trans g1
    have b0r := b0.trans (hbr.mono (by omega))
    obtain ⟨z0, z1, z2, zf0, zf1, zf2⟩ := Box3.of hgr
    obtain ⟨y0, y1, y2, -, -, -⟩ := Box3.of g0r
    have hTl : (d.writes.take j).length = j := by rw [List.length_take]; omega
    by_cases hlt : j < m
    · have hlt2 : j < d.writes.length := by omega
      obtain ⟨b, off, da, dc, rfl, k0, k1, hB⟩ := hw.at_ (List.getElem?_eq_getElem hlt2)
      have HW := Lib.hid (write_take HF.out hlt2)
      have hTb : (d.writes.take j).length ≤ 100000000 := by omega
      have HC0 := cell_keep b0r k0
      have HC1 := cell_keep b0r k1
      have hB := hB.keep b0r
      generalize d.writes[j] = x at *
      generalize d.writes.take j = T at *
      generalize hT2 : d.writes.take (j + 1) = T2 at *
      have HT2 := Lib.hid hT2
      clear k0 k1 hTl hT2
      have hI0 : (0 : Int) ≤ (j : Int) := by omega
      have hI1 : (j : Int) < (d.writes.length : Int) := by omega
      have HALL : ∀ W, Below wo.heap.size wo W → W.cell? ⟨w.heap.size + 1 + 1, 0, none⟩ = some (.slice p1 d.pages.length c1) ∧ W.cell? ⟨w.heap.size + 1 + 1, 1, none⟩ = some (.slice p2 T.length c2) ∧ W.cell? ⟨w.heap.size + 1 + 1, 2, none⟩ = some (.bool false) ∧ W.cell? ⟨w.heap.size, 1, none⟩ = some (.slice (some ⟨b, off, none⟩) d.writes.length wcp) ∧ W.cell? ⟨b, off + j * 2, none⟩ = some (.int .i64 x.at_) ∧ W.cell? ⟨b, off + j * 2 + 1, none⟩ = some (.slice da x.data.length dc) := fun W hW =>
        ⟨cell_keep hW z0, cell_keep hW z1, cell_keep hW z2, cell_keep hW y1, cell_keep hW HC0, cell_keep hW HC1⟩
      have hBlt : ∀ β, (fun i => i = w.heap.size + 1 ∨ i = w.heap.size + 1 + 1) β → β < wo.heap.size := by rintro _ (rfl | rfl) <;> omega
      go_wp2
      refine wp_region_noPanic ?_
      refine wp_region_late (fun w' => w'.cell? ⟨w.heap.size + 1 + 1, 0, none⟩ = some (.slice p1 d.pages.length c1) ∧ w'.cell? ⟨w.heap.size + 1 + 1, 1, none⟩ = some (.slice p2 T.length c2) ∧ w'.cell? ⟨w.heap.size + 1 + 1, 2, none⟩ = some (.bool false) ∧ w'.cell? ⟨w.heap.size, 1, none⟩ = some (.slice (some ⟨b, off, none⟩) d.writes.length wcp) ∧ w'.cell? ⟨b, off + j * 2, none⟩ = some (.int .i64 x.at_) ∧ w'.cell? ⟨b, off + j * 2 + 1, none⟩ = some (.slice da x.data.length dc)) 20 (by kernel_rfl) (HALL _ (below_drew' (Below.refl _ _))) (fun hHeld => ?_)
      refine any_take (by kernel_rfl) (i := 0) (oi := _) (v := ?_) rfl rfl (by kernel_rfl) (by kernel_rfl) (by kernel_rfl) (fun _ _ _ h => h) (Or.inl ⟨by rfl, ?_⟩) hHeld ?_
      rotate_left
      · intro w' hSw; try dsimp only at hSw
        go_simp
        try with_reducible rfl
      try simp only [puts, gets]
      refine any_take (by kernel_rfl) (i := 1) (oi := _) (v := ?_) rfl rfl (by kernel_rfl) (by kernel_rfl) (by kernel_rfl) (fun _ _ _ h => h) (Or.inl ⟨by rfl, ?_⟩) hHeld ?_
      rotate_left
      · intro w' hSw; try dsimp only at hSw
        go_simp
        try with_reducible rfl
      try simp only [puts, gets]
      refine any_take (by kernel_rfl) (i := 2) (oi := _) (v := ?_) rfl rfl (by kernel_rfl) (by kernel_rfl) (by kernel_rfl) (fun _ _ _ h => h) (Or.inl ⟨by rfl, ?_⟩) hHeld ?_
      rotate_left
      · intro w' hSw; try dsimp only at hSw
        go_simp
        try with_reducible rfl
      try simp only [puts, gets]
      refine any_take (by kernel_rfl) (i := 3) (oi := _) (v := ?_) rfl rfl (by kernel_rfl) (by kernel_rfl) (by kernel_rfl) (fun _ _ _ h => h) (Or.inl ⟨by rfl, ?_⟩) hHeld ?_
      rotate_left
      · intro w' hSw; try dsimp only at hSw
        go_simp
        try with_reducible rfl
      try simp only [puts, gets]
      refine any_take (by kernel_rfl) (i := 4) (oi := _) (v := ?_) rfl rfl (by kernel_rfl) (by kernel_rfl) (by kernel_rfl) (fun _ _ _ h => h) (Or.inl ⟨by rfl, ?_⟩) hHeld ?_
      rotate_left
      · intro w' hSw; try dsimp only at hSw
        go_simp
        try with_reducible rfl
      try simp only [puts, gets]
      refine any_take (by kernel_rfl) (i := 5) (oi := _) (v := ?_) rfl rfl (by kernel_rfl) (by kernel_rfl) (by kernel_rfl) (fun _ _ _ h => h) (Or.inl ⟨by rfl, ?_⟩) hHeld ?_
      rotate_left
      · intro w' hSw; try dsimp only at hSw
        go_simp
        try with_reducible rfl
      try simp only [puts, gets]
      refine any_take (by kernel_rfl) (i := 6) (oi := _) (v := ?_) rfl rfl (by kernel_rfl) (by kernel_rfl) (by kernel_rfl) (fun _ _ _ h => h) (Or.inl ⟨by rfl, ?_⟩) hHeld ?_
      rotate_left
      · intro w' hSw; try dsimp only at hSw
        go_simp
        try with_reducible rfl
      try simp only [puts, gets]
      refine any_take (by kernel_rfl) (i := 7) (oi := _) (v := ?_) rfl rfl (by kernel_rfl) (by kernel_rfl) (by kernel_rfl) (fun _ _ _ h => h) (Or.inl ⟨by rfl, ?_⟩) hHeld ?_
      rotate_left
      · intro w' hSw; try dsimp only at hSw
        go_simp
        try with_reducible rfl
      try simp only [puts, gets]
      refine any_take (by kernel_rfl) (i := 8) (oi := _) (v := ?_) rfl rfl (by kernel_rfl) (by kernel_rfl) (by kernel_rfl) (fun _ _ _ h => h) (Or.inl ⟨by rfl, ?_⟩) hHeld ?_
      rotate_left
      · intro w' hSw; try dsimp only at hSw
        go_simp
        try with_reducible rfl
      try simp only [puts, gets]
      refine any_take (by kernel_rfl) (i := 9) (oi := _) (v := ?_) rfl rfl (by kernel_rfl) (by kernel_rfl) (by kernel_rfl) (fun _ _ _ h => h) (Or.inl ⟨by rfl, ?_⟩) hHeld ?_
      rotate_left
      · intro w' hSw; try dsimp only at hSw
        go_simp
        try with_reducible rfl
      try simp only [puts, gets]
      refine any_take (by kernel_rfl) (i := 10) (oi := _) (v := ?_) rfl rfl (by kernel_rfl) (by kernel_rfl) (by kernel_rfl) (fun _ _ _ h => h) (Or.inl ⟨by rfl, ?_⟩) hHeld ?_
      rotate_left
      · intro w' hSw; try dsimp only at hSw
        go_simp
        try with_reducible rfl
      try simp only [puts, gets]
      refine any_take (by kernel_rfl) (i := 11) (oi := _) (v := ?_) rfl rfl (by kernel_rfl) (by kernel_rfl) (by kernel_rfl) (fun _ _ _ h => h) (Or.inl ⟨by rfl, ?_⟩) hHeld ?_
      rotate_left
      · intro w' hSw; try dsimp only at hSw
        go_simp
        try with_reducible rfl
      try simp only [puts, gets]
      refine any_take (by kernel_rfl) (i := 12) (oi := _) (v := ?_) rfl rfl (by kernel_rfl) (by kernel_rfl) (by kernel_rfl) (fun _ _ _ h => h) (Or.inl ⟨by rfl, ?_⟩) hHeld ?_
      rotate_left
      · intro w' hSw; try dsimp only at hSw
        go_simp
        try with_reducible rfl
      try simp only [puts, gets]
      refine any_two (i := 13) (j := 17) (by kernel_rfl) rfl rfl rfl rfl (fun K hK => ?_) (fun K hK => ?_)
      · go_simp
        go_at_call 19
        refine writeoff_ts (hO.keep (below_drew' (Below.refl _ _))) hBlt (hB.keep (below_drew' (Below.refl _ _))) hTb HW ?_
        intro qa qc ra rc w5 o5 b5
        have b5 : Below wo.heap.size wo w5 := below_undrew b5
        refine hK.out _ _ ?_ (fun hHeld => ?_)
        · exact HALL _ b5
        clear hK K
        refine any_take (by kernel_rfl) (i := 14) (oi := _) (v := ?_) rfl rfl (by kernel_rfl) (by kernel_rfl) (by kernel_rfl) (fun _ _ _ h => h) (Or.inl ⟨by rfl, ?_⟩) hHeld ?_
        rotate_left
        · intro w' hSw; try dsimp only at hSw
          go_simp
          try with_reducible rfl
        try simp only [puts, gets]
        refine any_take (by kernel_rfl) (i := 15) (oi := _) (v := ?_) rfl rfl (by kernel_rfl) (by kernel_rfl) (by kernel_rfl) (fun _ _ _ h => h) (Or.inl ⟨by rfl, ?_⟩) hHeld ?_
        rotate_left
        · intro w' hSw; try dsimp only at hSw
          go_simp
          try with_reducible rfl
        try simp only [puts, gets]
        refine any_take (by kernel_rfl) (i := 16) (oi := _) (v := ?_) rfl rfl (by kernel_rfl) (by kernel_rfl) (by kernel_rfl) (fun _ _ _ h => h) (Or.inl ⟨by rfl, ?_⟩) hHeld ?_
        rotate_left
        · intro w' hSw; try dsimp only at hSw
          go_simp
          try with_reducible rfl
        try simp only [puts, gets]
        refine any_next (i := 17) (by kernel_rfl) rfl rfl (fun K hK => ?_)
        go_simp
        refine hK.out _ _ ?_ (fun hHeld => ?_)
        · exact HALL _ (below_alloc' b5)
        clear hK K
        try simp only [puts, gets]
        refine any_next (i := 18) (by kernel_rfl) rfl rfl (fun K hK => ?_)
        go_simp
        refine hK.out _ _ ?_ (fun hHeld => ?_)
        · exact HALL _ (below_alloc' b5)
        clear hK K
        try simp only [puts, gets]
        refine any_take (by kernel_rfl) (i := 19) (oi := _) (v := ?_) rfl rfl (by kernel_rfl) (by kernel_rfl) (by kernel_rfl) (fun _ _ _ h => h) (Or.inl ⟨by rfl, ?_⟩) hHeld ?_
        rotate_left
        · intro w' hSw; try dsimp only at hSw
          go_simp
          try with_reducible rfl
        try simp only [puts, gets]
        refine any_done (by kernel_rfl) ?_ _
        refine NoPanic.normal ?_
        have gN := heap_alloc_new w5 (.cells #[.slice qa d.pages.length qc, .slice ra T2.length rc, .bool false] 25)
        have b6 : Below wo.heap.size wo _ := below_alloc' (o := .cells #[.slice qa d.pages.length qc, .slice ra T2.length rc, .bool false] 25) b5
        have o6 := o5.keep (below_new w5 (.cells #[.slice qa d.pages.length qc, .slice ra T2.length rc, .bool false] 25))
        have s5 := b5.size
        obtain ⟨w6, hw6⟩ : ∃ x : World, x = w5.alloc (.cells #[.slice qa d.pages.length qc, .slice ra T2.length rc, .bool false] 25) := ⟨_, rfl⟩
        rw [← hw6] at gN b6 o6 ⊢
        clear hw6
        obtain ⟨x0, x1, x2, -, -, -⟩ := Box3.of gN
        have hg6 := block_keep hgr b6
        have s6 := b6.size
        have hne : w5.heap.size ≠ w.heap.size + 1 + 1 := by omega
        have hne' : w.heap.size + 1 + 1 ≠ w5.heap.size := by omega
        obtain ⟨v0, v1, v2, vf0, vf1, vf2⟩ := Box3.of hg6
        go_wp2
        go_roundw
        case rel =>
          refine ⟨j + 1, qa, qc, ra, rc, by omega, by go_num, ?_, Lib.hid ?_, set3_below (β := w.heap.size + 1 + 1) _ _ _ (hbr.trans (b6.mono (by omega))) (Nat.le_refl _), by simp [World.setCell]; omega⟩
          · rw [HT2.out]; exact Box3.set hg6
          · rw [HT2.out]; exact OffDisk.set3 (β := w.heap.size + 1 + 1) o6 (.inr rfl) _ _ _
        case measure => simp [intOf]; omega
      · go_simp
        refine hK.out _ _ ?_ (fun hHeld => ?_)
        · exact HALL _ (below_alloc' (below_drew' (Below.refl _ _)))
        clear hK K
        try simp only [puts, gets]
        refine any_next (i := 13) (by kernel_rfl) rfl rfl (fun K hK => ?_)
        go_simp
        go_at_call 19
        refine writeoff_ts (OffDisk.widen (B' := fun i => (i = w.heap.size + 1 ∨ i = w.heap.size + 1 + 1) ∨ i = wo.heap.size) hO (below_alloc' (below_drew' (Below.refl _ _))) (fun i hi hB' => hB'.resolve_right (by omega))) (fun β hβ => by simp; rcases hβ with hβ | hβ; (have := hBlt β hβ; omega); omega) (hB.keep (below_alloc' (below_drew' (Below.refl _ _)))) hTb HW ?_
        intro qa qc ra rc w5 o5 b5
        have gB : w5.heap[wo.heap.size]? = some (.cells #[.slice none 0 0, .slice none 0 0, .bool false] 25 (0, 0)) := block_keep (heap_alloc_new wo.drew (.cells #[.slice none 0 0, .slice none 0 0, .bool false] 25)) b5
        have b5 : Below wo.heap.size wo w5 := below_undrew (below_trans (below_new wo.drew (.cells #[.slice none 0 0, .slice none 0 0, .bool false] 25)) b5)
        refine hK.out _ _ ?_ (fun hHeld => ?_)
        · exact HALL _ b5
        clear hK K
        refine any_take (by kernel_rfl) (i := 14) (oi := _) (v := ?_) rfl rfl (by kernel_rfl) (by kernel_rfl) (by kernel_rfl) (fun _ _ _ h => h) (Or.inl ⟨by rfl, ?_⟩) hHeld ?_
        rotate_left
        · intro w' hSw; try dsimp only at hSw
          go_simp
          try with_reducible rfl
        try simp only [puts, gets]
        refine any_take (by kernel_rfl) (i := 15) (oi := _) (v := ?_) rfl rfl (by kernel_rfl) (by kernel_rfl) (by kernel_rfl) (fun _ _ _ h => h) (Or.inl ⟨by rfl, ?_⟩) hHeld ?_
        rotate_left
        · intro w' hSw; try dsimp only at hSw
          go_simp
          try with_reducible rfl
        try simp only [puts, gets]
        refine any_take (by kernel_rfl) (i := 16) (oi := _) (v := ?_) rfl rfl (by kernel_rfl) (by kernel_rfl) (by kernel_rfl) (fun _ _ _ h => h) (Or.inl ⟨by rfl, ?_⟩) hHeld ?_
        rotate_left
        · intro w' hSw; try dsimp only at hSw
          go_simp
          try with_reducible rfl
        try simp only [puts, gets]
        refine any_next (i := 18) (by kernel_rfl) rfl rfl (fun K hK => ?_)
        obtain ⟨q0, q1, q2, qf0, qf1, qf2⟩ := Box3.of gB
        go_simp
        refine hK.out _ _ ?_ (fun hHeld => ?_)
        · exact HALL _ (set3_below (β := wo.heap.size) _ _ _ b5 (Nat.le_refl _))
        clear hK K
        try simp only [puts, gets]
        refine any_take (by kernel_rfl) (i := 19) (oi := _) (v := ?_) rfl rfl (by kernel_rfl) (by kernel_rfl) (by kernel_rfl) (fun _ _ _ h => h) (Or.inl ⟨by rfl, ?_⟩) hHeld ?_
        rotate_left
        · intro w' hSw; try dsimp only at hSw
          go_simp
          try with_reducible rfl
        try simp only [puts, gets]
        refine any_done (by kernel_rfl) ?_ _
        refine NoPanic.normal ?_
        have gN := Box3.set (x := .slice qa d.pages.length qc) (y := .slice ra T2.length rc) (z := .bool false) gB
        have b6 : Below wo.heap.size wo _ := set3_below (β := wo.heap.size) (.slice qa d.pages.length qc) (.slice ra T2.length rc) (.bool false) b5 (Nat.le_refl _)
        have o6 : OffDisk (fun i => i = w.heap.size + 1 ∨ i = w.heap.size + 1 + 1) (((w5.setCell ⟨wo.heap.size, 0, none⟩ (.slice qa d.pages.length qc)).setCell ⟨wo.heap.size, 1, none⟩ (.slice ra T2.length rc)).setCell ⟨wo.heap.size, 2, none⟩ (.bool false)) (.agg #[.slice qa d.pages.length qc, .slice ra T2.length rc, .bool false]) ⟨d.pages, T2, false⟩ := OffDisk.shrink (OffDisk.set3 (β := wo.heap.size) o5 (.inr rfl) _ _ _) fun i hi => .inl hi
        obtain ⟨w6, hw6⟩ : ∃ x : World, x = (((w5.setCell ⟨wo.heap.size, 0, none⟩ (.slice qa d.pages.length qc)).setCell ⟨wo.heap.size, 1, none⟩ (.slice ra T2.length rc)).setCell ⟨wo.heap.size, 2, none⟩ (.bool false)) := ⟨_, rfl⟩
        rw [← hw6] at gN b6 o6 ⊢
        clear hw6
        obtain ⟨x0, x1, x2, -, -, -⟩ := Box3.of gN
        have hg6 := block_keep hgr b6
        have s6 := b6.size
        have hne : wo.heap.size ≠ w.heap.size + 1 + 1 := by omega
        have hne' : w.heap.size + 1 + 1 ≠ wo.heap.size := by omega
        obtain ⟨v0, v1, v2, vf0, vf1, vf2⟩ := Box3.of hg6
        go_wp2
        go_roundw
        case rel =>
          refine ⟨j + 1, qa, qc, ra, rc, by omega, by go_num, ?_, Lib.hid ?_, set3_below (β := w.heap.size + 1 + 1) _ _ _ (hbr.trans (b6.mono (by omega))) (Nat.le_refl _), by simp [World.setCell]; omega⟩
          · rw [HT2.out]; exact Box3.set hg6
          · rw [HT2.out]; exact OffDisk.set3 (β := w.heap.size + 1 + 1) o6 (.inr rfl) _ _ _
        case measure => simp [intOf]; omega
    · have e : j = m := by omega
      subst e
      have HTl := Lib.hid hTl
      clear hTl
      generalize d.writes.take j = T at *
      obtain ⟨u0, u1, u2, uf0, uf1, uf2⟩ := Box3.of g1r
      go_wp2
      refine bodyPost_ret (v := .agg #[.slice p1 d.pages.length c1, .slice p2 T.length c2, .bool false]) (by simp [results, Try.results36, go_sem, u0, u1, u2]) rfl ?_
      exact ⟨_, rfl, (OffDisk.set3 (β := w.heap.size + 1) hO (.inl rfl) _ _ _).is, set3_below (β := w.heap.size + 1) _ _ _ b0r (by omega)⟩
end Go.Proofs.Ytcembocnkndlhaa
/- Append of a disk that reads in every world that differs at some blocks alone: so does the result. -/
namespace Go.Proofs.Ytcembocnkndlhaa
open Go.RowKit Go.Shelf
attribute [local go_sem] Oper.semAt_some
theorem OffDisk.less {B C : Nat → Prop} {w : World} {v : Value} {d : Dk} (h : OffDisk C w v d) (hs : ∀ i, B i → C i) : OffDisk B w v d := by
  obtain ⟨pv, wv, ps, hv, hl, hAll⟩ := h
  exact ⟨pv, wv, ps, hv, hl, fun W hW => hAll W fun i hi hC => hW i hi fun hb => hC (hs i hb)⟩
theorem off_more {B C : Nat → Prop} {w w' : World} {v : Value} {d : Dk} (h : OffDisk B w v d) (hb : Below w.heap.size w w') (hC : ∀ β, C β → w.heap.size ≤ β) : OffDisk (fun i => B i ∨ C i) w' v d := by
  obtain ⟨pv, wv, ps, hv, hl, hAll⟩ := h
  refine ⟨pv, wv, ps, hv, hl, fun W hW => hAll W fun i hi hB => ?_⟩
  refine (hW i (Nat.lt_of_lt_of_le hi hb.size) fun e => ?_).trans (hb.block i hi)
  rcases e with e | e
  · exact hB e
  · have := hC i e; omega
set_option maxHeartbeats 2000000 in
set_option maxRecDepth 100000 in
theorem Append_err_off (B : Nat → Prop) (v : Value) (d : Dk) (k : Int) (bv : Value) (r : List UInt8) (w : World) (hoff : OffDisk B w v d) (hB : ∀ β, B β → β < w.heap.size) (hb : IsBytes w bv r) (hf : failure d k ≠ 0) : Calls Try.prog 43 #[v, .int .i64 k, bv] w (DiskErrOff B (appendD d k r) w) := by
  have h := hoff.is
  have h0 := h
  have HOFF := Lib.hid hoff
  have HBB := Lib.hid hB
  clear hoff hB
  obtain ⟨pa, pc, wa, wc, rfl, -, -, -⟩ := h.shape
  obtain ⟨ba, bc, rfl, -, mb⟩ := hb
  have b1 := below_new w (.cells #[.slice pa d.pages.length pc, .slice wa d.writes.length wc, .bool d.down] 25)
  have b2 := below_new (w.alloc (.cells #[.slice pa d.pages.length pc, .slice wa d.writes.length wc, .bool d.down] 25)) (.cells #[.slice none 0 0, .slice none 0 0, .bool false] 25)
  have b0 := below_trans b1 b2
  have g0 := block_keep (heap_alloc_new w (.cells #[.slice pa d.pages.length pc, .slice wa d.writes.length wc, .bool d.down] 25)) b2
  have g1 := box_at2 w (.slice pa d.pages.length pc) (.slice wa d.writes.length wc) (.bool d.down)
  obtain ⟨wb, hwb⟩ : ∃ x : World, x = (w.alloc (.cells #[.slice pa d.pages.length pc, .slice wa d.writes.length wc, .bool d.down] 25)).alloc (.cells #[.slice none 0 0, .slice none 0 0, .bool false] 25) := ⟨_, rfl⟩
  rw [← hwb] at b0 g0 g1
  clear b1 b2
  obtain ⟨y0, y1, y2, -, -, -⟩ := Box3.of g0
  have HR := Lib.hid (show appendD d k r = (noDisk, failure d k) from if_pos hf)
  obtain ⟨f, hr⟩ : ∃ f, failure d k = f := ⟨_, rfl⟩
  have hq : (f != 0) = true := by rw [← hr]; simpa using hf
  rw [hr] at HR
  have HRR := Lib.hid hr
  clear hf hr
  go_enter Try.func43, Try.ntmps43
  go_wp2_with fail
  rw [← hwb]
  clear hwb
  refine (readable_any _ d k _ (h0.keep b0)).mono ?_
  rintro e w1 ⟨rfl, b1⟩
  rw [HRR.out]
  obtain ⟨u0, u1, u2, uf0, uf1, uf2⟩ := Box3.of (block_keep g1 b1)
  go_wp2
  refine bodyPost_ret (v := .tuple #[zeroV, .int .i64 f]) (by simp [results, Try.results43, go_sem, zeroV, u0, u1, u2]) rfl ?_
  refine ⟨zeroV, by rw [HR.out], by rw [HR.out]; exact OffDisk.zero B _, ?_⟩
  exact (((below_trans b0 b1).setCell (p := ⟨w.heap.size + 1, 0, none⟩) (by simp) _).setCell (p := ⟨w.heap.size + 1, 1, none⟩) (by simp) _).setCell (p := ⟨w.heap.size + 1, 2, none⟩) (by simp) _
set_option maxHeartbeats 2000000 in
set_option maxRecDepth 100000 in
theorem Append_lim_off (B : Nat → Prop) (v : Value) (d : Dk) (k : Int) (bv : Value) (r : List UInt8) (w : World) (hoff : OffDisk B w v d) (hB : ∀ β, B β → β < w.heap.size) (hb : IsBytes w bv r) (hl : r.length ≤ 1000000) (hf : failure d k = 0) (hz : zOf d k + pagesN r.length > 400) : Calls Try.prog 43 #[v, .int .i64 k, bv] w (DiskErrOff B (appendD d k r) w) := by
  have h := hoff.is
  have h0 := h
  have HOFF := Lib.hid hoff
  have HBB := Lib.hid hB
  clear hoff hB
  have hb0 := hb
  obtain ⟨pa, pc, wa, wc, rfl, -, -, -⟩ := h.shape
  obtain ⟨ba, bc, rfl, -, mb⟩ := hb
  have b1 := below_new w (.cells #[.slice pa d.pages.length pc, .slice wa d.writes.length wc, .bool d.down] 25)
  have b2 := below_new (w.alloc (.cells #[.slice pa d.pages.length pc, .slice wa d.writes.length wc, .bool d.down] 25)) (.cells #[.slice none 0 0, .slice none 0 0, .bool false] 25)
  have b0 := below_trans b1 b2
  have g0 := block_keep (heap_alloc_new w (.cells #[.slice pa d.pages.length pc, .slice wa d.writes.length wc, .bool d.down] 25)) b2
  have g1 := box_at2 w (.slice pa d.pages.length pc) (.slice wa d.writes.length wc) (.bool d.down)
  obtain ⟨wb, hwb⟩ : ∃ x : World, x = (w.alloc (.cells #[.slice pa d.pages.length pc, .slice wa d.writes.length wc, .bool d.down] 25)).alloc (.cells #[.slice none 0 0, .slice none 0 0, .bool false] 25) := ⟨_, rfl⟩
  rw [← hwb] at b0 g0 g1
  clear b1 b2
  obtain ⟨y0, y1, y2, -, -, -⟩ := Box3.of g0
  have HR := Lib.hid (show appendD d k r = (noDisk, 2) by unfold appendD; rw [if_neg (by simp [hf]), if_pos hz])
  have HE := Lib.hid (endD_ok hf)
  obtain ⟨z, hzz⟩ : ∃ z, zOf d k = z := ⟨_, rfl⟩
  obtain ⟨p, hp⟩ : ∃ p, pagesN r.length = p := ⟨_, rfl⟩
  rw [hzz] at HE
  rw [hzz, hp] at hz
  have HP := Lib.hid hp
  have HF := Lib.hid hf
  have hz4 : z ≤ 500 := by
    rw [← hzz]
    obtain ⟨-, -, e1, e2⟩ := failure_zero hf
    have := (walkL_chain (pagesOf d) 400 k.toNat (by omega)).1.top (by omega)
    unfold zOf; omega
  have hp4 : p ≤ 1000000 := by rw [← hp]; unfold pagesN; omega
  have hq : decide ((400 : Int) < (z : Int) + (p : Int)) = true := decide_eq_true (by omega)
  have hw4 : IntKind.i64.wrap ((z : Int) + (p : Int)) = (z : Int) + (p : Int) := by rw [IntKind.wrap_i64]; omega
  clear hf hzz hp
  go_enter Try.func43, Try.ntmps43
  go_wp2_with fail
  rw [← hwb]
  clear hwb
  refine (readable_any _ d k _ (h0.keep b0)).mono ?_
  rintro e w1 ⟨rfl, b1⟩
  rw [HF.out]
  have b01 := below_trans b0 b1
  have g01 := block_keep g0 b1
  clear y0 y1 y2
  obtain ⟨y0, y1, y2, -, -, -⟩ := Box3.of g01
  go_wp2_with fail
  refine (End_any _ d k _ (h0.keep b01)).mono ?_
  rintro e w2 ⟨rfl, b2⟩
  rw [HE.out]
  clear y0 y1 y2
  go_upto_region 5 with fail
  have gA := heap_alloc_new w2 (.cells #[.int .i64 z] 3)
  have bA := below_new w2 (.cells #[.int .i64 z] 3)
  obtain ⟨wA, hwA⟩ : ∃ x : World, x = w2.alloc (.cells #[.int .i64 z] 3) := ⟨_, rfl⟩
  rw [← hwA] at gA bA
  rw [← hwA]
  clear hwA
  have b02 := below_trans b01 (below_trans b2 bA)
  have hbA := hb0.keep b02
  have HS : ∀ w', Below wA.heap.size wA w' → w'.cell? ⟨w2.heap.size, 0, none⟩ = some (.int .i64 z) := fun w' hb => cell_at (j := 0) (block_keep gA hb) rfl
  go_region_held3 (fun w' => w'.cell? ⟨w2.heap.size, 0, none⟩ = some (.int .i64 z))
    (first | exact HS _ (by with_reducible (repeat (first | assumption | exact Below.refl _ _ | refine below_alloc' ?_ | refine below_drew' ?_ | refine below_step (by assumption) ?_))))
    (first
      | (go_at_call 44; refine pages_ts (IsBytes.keep hbA (by with_reducible (repeat (first | assumption | exact Below.refl _ _ | refine below_alloc' ?_ | refine below_drew' ?_ | refine below_step (by assumption) ?_)))) hl HP ?_))
  all_goals
    obtain ⟨u0, u1, u2, uf0, uf1, uf2⟩ := Box3.of (block_keep g1 (below_trans b1 (below_trans b2 bA)))
    go_wp2
    refine bodyPost_ret (v := .tuple #[zeroV, .int .i64 2]) (by simp [results, Try.results43, go_sem, zeroV, u0, u1, u2]) rfl ?_
    refine ⟨zeroV, by rw [HR.out], by rw [HR.out]; exact OffDisk.zero B _, ?_⟩
    first
      | exact ((b02.setCell (p := ⟨w.heap.size + 1, 0, none⟩) (by simp) _).setCell (p := ⟨w.heap.size + 1, 1, none⟩) (by simp) _).setCell (p := ⟨w.heap.size + 1, 2, none⟩) (by simp) _
      | exact (((b02.setCell (p := ⟨w.heap.size + 1, 0, none⟩) (by simp) _).setCell (p := ⟨w.heap.size + 1, 1, none⟩) (by simp) _).setCell (p := ⟨w.heap.size + 1, 2, none⟩) (by simp) _).drew
set_option maxHeartbeats 4000000 in
set_option maxRecDepth 100000 in
theorem Append_in_off (B : Nat → Prop) (v : Value) (d : Dk) (k : Int) (bv : Value) (r : List UInt8) (w : World) (hoff : OffDisk B w v d) (hB : ∀ β, B β → β < w.heap.size) (hb : IsBytes w bv r) (hl : r.length ≤ 1000000) (hf : failure d k = 0) (hz : zOf d k + pagesN r.length ≤ 400) (hwl : d.writes.length ≤ 1000000) : CallsIn Fence.wide 4 Try.prog 43 #[v, .int .i64 k, bv] w (DiskErrOff B (appendD d k r) w) := by
  have h := hoff.is
  have h0 := h
  have HOFF := Lib.hid hoff
  have HBB := Lib.hid hB
  clear hoff hB
  have hb0 := hb
  obtain ⟨pa, pc, wa, wk, rfl, -, -, -⟩ := h.shape
  obtain ⟨ba, bc, rfl, -, mb⟩ := hb
  have b1 := below_new w (.cells #[.slice pa d.pages.length pc, .slice wa d.writes.length wk, .bool d.down] 25)
  have b2 := below_new (w.alloc (.cells #[.slice pa d.pages.length pc, .slice wa d.writes.length wk, .bool d.down] 25)) (.cells #[.slice none 0 0, .slice none 0 0, .bool false] 25)
  have b0 := below_trans b1 b2
  have g0 := block_keep (heap_alloc_new w (.cells #[.slice pa d.pages.length pc, .slice wa d.writes.length wk, .bool d.down] 25)) b2
  have g1 := box_at2 w (.slice pa d.pages.length pc) (.slice wa d.writes.length wk) (.bool d.down)
  obtain ⟨wb, hwb⟩ : ∃ x : World, x = (w.alloc (.cells #[.slice pa d.pages.length pc, .slice wa d.writes.length wk, .bool d.down] 25)).alloc (.cells #[.slice none 0 0, .slice none 0 0, .bool false] 25) := ⟨_, rfl⟩
  rw [← hwb] at b0 g0 g1
  clear b1 b2
  obtain ⟨y0, y1, y2, -, -, -⟩ := Box3.of g0
  have HR := Lib.hid (show appendD d k r = (⟨d.pages, d.writes ++ appendW (zOf d k) r, false⟩, 0) by unfold appendD; rw [if_neg (by simp [hf]), if_neg (by omega)])
  have HE := Lib.hid (endD_ok hf)
  obtain ⟨z, hzz⟩ : ∃ z, zOf d k = z := ⟨_, rfl⟩
  obtain ⟨p, hp⟩ : ∃ p, pagesN r.length = p := ⟨_, rfl⟩
  rw [hzz] at HE HR
  rw [hzz, hp] at hz
  have HP := Lib.hid hp
  have HF := Lib.hid hf
  have hz4 : z ≤ 500 := by
    rw [← hzz]
    obtain ⟨-, -, e1, e2⟩ := failure_zero hf
    have := (walkL_chain (pagesOf d) 400 k.toNat (by omega)).1.top (by omega)
    unfold zOf; omega
  have hp4 : p ≤ 1000000 := by rw [← hp]; unfold pagesN; omega
  have hq : decide ((400 : Int) < (z : Int) + (p : Int)) = false := decide_eq_false (by omega)
  have hw4 : IntKind.i64.wrap ((z : Int) + (p : Int)) = (z : Int) + (p : Int) := by rw [IntKind.wrap_i64]; omega
  obtain ⟨hfm, hdn, -, -⟩ := failure_zero hf
  have HFM := Lib.hid hfm
  have HDN := Lib.hid hdn
  clear hf hzz hp hfm hdn
  refine callsIn_of_wp_marks Try.func43 rfl trivial ?_ rfl
  simp only [Try.ntmps43, List.size_toArray, List.length_cons, List.length_nil, Nat.reduceAdd, Nat.reduceSub, Array.replicate_succ, Array.replicate_zero, List.push_toArray, List.append_toArray, List.nil_append, List.cons_append]
  refine wpIn_wide.2 ?_
  go_wp2_with fail
  rw [← hwb]
  clear hwb
  refine (readable_any _ d k _ (h0.keep b0)).mono ?_
  rintro e w1 ⟨rfl, b1⟩
  rw [HF.out]
  have b01 := below_trans b0 b1
  have g01 := block_keep g0 b1
  clear y0 y1 y2
  obtain ⟨y0, y1, y2, -, -, -⟩ := Box3.of g01
  go_wp2_with fail
  refine (End_any _ d k _ (h0.keep b01)).mono ?_
  rintro e w2 ⟨rfl, b2⟩
  rw [HE.out]
  clear y0 y1 y2
  go_upto_region 5 with fail
  have gA := heap_alloc_new w2 (.cells #[.int .i64 z] 3)
  have bA := below_new w2 (.cells #[.int .i64 z] 3)
  obtain ⟨wA, hwA⟩ : ∃ x : World, x = w2.alloc (.cells #[.int .i64 z] 3) := ⟨_, rfl⟩
  rw [← hwA] at gA bA
  rw [← hwA]
  clear hwA
  have b02 := below_trans b01 (below_trans b2 bA)
  have hbA := hb0.keep b02
  have HS : ∀ w', Below wA.heap.size wA w' → w'.cell? ⟨w2.heap.size, 0, none⟩ = some (.int .i64 z) := fun w' hb => cell_at (j := 0) (block_keep gA hb) rfl
  go_cut [30] from 26 to 29 (fun vt wx => vt = .bool false ∧ Below wA.heap.size wA wx)
  case first =>
    go_region_held3 (fun w' => w'.cell? ⟨w2.heap.size, 0, none⟩ = some (.int .i64 z))
      (first | exact HS _ (by with_reducible (repeat (first | assumption | exact Below.refl _ _ | refine below_alloc' ?_ | refine below_drew' ?_ | refine below_step (by assumption) ?_))))
      (first
        | (go_at_call 44; refine pages_ts (IsBytes.keep hbA (by with_reducible (repeat (first | assumption | exact Below.refl _ _ | refine below_alloc' ?_ | refine below_drew' ?_ | refine below_step (by assumption) ?_)))) hl HP ?_))
    all_goals
      go_wp2
      go_meet
      case rel => exact ⟨rfl, by with_reducible (repeat (first | assumption | exact Below.refl _ _ | refine below_alloc' ?_ | refine below_drew' ?_ | refine below_step (by assumption) ?_))⟩
  case rest =>
    obtain ⟨rfl, b3⟩ := hcut
    obtain ⟨w3, hw3⟩ : ∃ x : World, x = wc := ⟨_, rfl⟩
    subst hw3
    clear hq hw4 HS
    have gA3 := block_keep gA b3
    have b03 := below_trans b02 b3
    have hb3 := hb0.keep b03
    have hlw : IntKind.u32.wrap (r.length : Int) = (r.length : Int) := wrap_u32_id (by omega)
    go_wp2_with fail
    refine (four_any r.length _ (by unfold two32; omega)).mono ?_
    rintro e w4 ⟨rfl, hw4⟩
    have o4 := fresh_own w3 (fourN r.length) (by show 4 ≤ maxLen; decide)
    have b4 := below_new w3 (.cells (bytesV (fourN r.length)).toArray 5)
    have hs4 : w3.heap.size < w4.heap.size := by rw [hw4]; simp
    rw [← hw4] at o4 b4
    clear hw4
    go_wp2_with fail
    refine (Sum_any _ r _ (hb3.keep b4)).mono ?_
    rintro e w5 ⟨rfl, rfl⟩
    obtain ⟨sm, hsm⟩ : ∃ sm, sm = sumN r := ⟨_, rfl⟩
    rw [← hsm]
    have hsl : sm < two32 := by rw [hsm]; exact sumN_lt r
    have HSM := Lib.hid hsm
    clear hsm
    go_wp2_with fail
    refine (four_any sm _ hsl).mono ?_
    rintro e w5 ⟨rfl, hw5⟩
    have o5 := fresh_own w4 (fourN sm) (by show 4 ≤ maxLen; decide)
    have b5 := below_new w4 (.cells (bytesV (fourN sm)).toArray 5)
    have hs5 : w3.heap.size ≤ w5.heap.size := by rw [hw5]; simp; omega
    rw [← hw5] at o5 b5
    clear hw5
    have o45 : w5.ownsRow w3.heap.size 5 1 (.slice (some ⟨w3.heap.size, 0, none⟩) 4 4) 4 (bytesV (fourN r.length)) := own_keep o4 b5
    have hx5 : IsRows 1 encB w5 (.slice (some ⟨w4.heap.size, 0, none⟩) 4 4) (fourN sm) := IsRows.of_owns (base := w4.heap.size) (e := 5) (by rw [flat_bytes]; exact o5) (fun _ _ => rfl) (by show 4 ≤ 9223372036854775807; decide)
    obtain ⟨i0, hi, hz0, hz1, hz2⟩ := info_parts info5
    have hone := bytes_one (fourN sm)
    obtain ⟨l8, hl8⟩ : ∃ l8, l8 = fourN r.length ++ fourN sm := ⟨_, rfl⟩
    have HL8 := Lib.hid hl8
    clear hl8
    go_upto_region 8 with (at_builtin; refine wpList_append_rows rfl encB _ _ 26 rfl w3.heap.size 5 i0 (.int .u8 0) 1 1 Try.underlying26 hi hz0 hz1 hz2 rfl (by decide) _ _ _ rfl o45 _ (fourN sm) rfl hx5 (fun _ _ => rfl) hone (by show 4 + 4 ≤ maxLen; decide) (by show (4 + 4) * 1 ≤ 140737488355328; decide) hs5 ?_; intro v6 w6 own6 grow6 at6; have o6 : w6.ownsRow w3.heap.size 5 1 v6 8 (bytesV l8) := (by rw [HL8.out, bytesV_append, ← flat_bytes (fourN sm)]; exact own6); obtain ⟨g6, cap6, hv6, hg6, hgl6⟩ := own_pos o6 (by decide); subst hv6)
    obtain ⟨m, hm⟩ : ∃ m, m = min r.length 55 := ⟨_, rfl⟩
    have HM := Lib.hid hm
    go_cut [11] from 40 to 42 (fun vt wx => vt = .int .i64 m ∧ wx = w6)
    case first =>
      go_wp2
      all_goals
        go_meet
        case rel => exact ⟨congrArg (Value.int .i64) (by omega), rfl⟩
    case rest =>
      obtain ⟨rfl, hwc⟩ := hcut
      have hwc' := hwc.symm
      subst hwc'
      have hml : m ≤ r.length := by omega
      have hm55 : m ≤ 55 := by omega
      have hmc : m ≤ bc := by omega
      clear hm
      have b36 : Below w3.heap.size w3 w6 := Below.grown (below_trans b4 b5) grow6 hs5 (own_from o45)
      have hs6 := b36.size
      have hx6 := bytes_front (hb3.keep b36) hml
      have hone2 := bytes_one (r.take m)
      have hlt : (r.take m).length = m := by rw [List.length_take]; omega
      obtain ⟨t, ht⟩ : ∃ t, t = r.take m := ⟨_, rfl⟩
      rw [← ht] at hx6 hone2 hlt
      have HT := Lib.hid ht
      clear ht
      have hm1 : 8 + t.length ≤ maxLen := by unfold maxLen; omega
      have hm2 : (8 + t.length) * 1 ≤ 140737488355328 := by omega
      have HLT := Lib.hid hlt
      clear hlt
      obtain ⟨q, hq⟩ : ∃ q : Nat, (55 : Int) - (m : Int) + 1 = (q : Int) := ⟨56 - m, by omega⟩
      have hq0 : 0 < q := by omega
      have hqm : 8 + m + q = 64 := by omega
      have HQM := Lib.hid hqm
      have HQ := Lib.hid hq
      obtain ⟨lz, hlz⟩ : ∃ lz, lz = l8 ++ t ++ zeros q := ⟨_, rfl⟩
      have hzq : bytesV (zeros q) = List.replicate q (Value.int .u8 0) := by unfold zeros bytesV; rw [List.map_replicate]; rfl
      have hlzV : bytesV lz = bytesV (l8 ++ t) ++ List.replicate q (Value.int .u8 0) := by rw [hlz, bytesV_append, hzq]
      have HLZ := Lib.hid hlz
      have HLV := Lib.hid hlzV
      clear hq hqm hlz hzq hlzV
      go_upto_region 10 with (first
        | (at_builtin; refine wpList_append_rows rfl encB (.tmp 43) (.tmp 46) 26 rfl w3.heap.size 5 i0 (.int .u8 0) 1 1 Try.underlying26 hi hz0 hz1 hz2 rfl (by decide) _ _ _ rfl o6 _ t rfl hx6 (fun _ _ => rfl) hone2 hm1 hm2 hs6 ?_; intro v7 w7 own7 grow7 at7; rw [HLT.out] at own7; have o7 : w7.ownsRow w3.heap.size 5 1 v7 (8 + m) (bytesV (l8 ++ t)) := (by rw [bytesV_append, ← flat_bytes t]; exact own7); obtain ⟨g7, cap7, hv7, hg7, hgl7⟩ := own_pos o7 (by omega); subst hv7; have b67 : Below w3.heap.size w3 w7 := below_grow b36 grow7 hs6 (own_from o6); have hs7 := b67.size; obtain ⟨v8, w8, hrun8, own8, grow8⟩ := run_append_own_zeros w7 w3.heap.size 26 3 26 5 i0 .i64 .i64 Try.underlying26 Try.underlying3 hi hz0 hz1 hz2 _ (8 + m) _ o7 q hq0 (by rw [HQM.out]; decide) (by rw [HQM.out]; decide) hs7; rw [HQM.out, ← HLV.out] at own8; obtain ⟨g8, cap8, hv8, hg8, hgl8⟩ := own_pos own8 (by decide); subst hv8; have HRUN := Lib.hid hrun8; clear hrun8)
        | (at_builtin; refine Lib.wpList_append_run _ rfl (.tmp 47) (.tmp 50) 26 3 rfl _ (.int .i64 q) rfl (congrArg (Value.int .i64) HQ.out) _ _ HRUN.out ?_))
      have b68 : Below w3.heap.size w3 w8 := below_grow b67 grow8 hs7 (own_from o7)
      have hs8 := b68.size
      have hc63 : w8.cell? ⟨g8, 63, none⟩ = some (.int .u8 0) := last_zero own8 (by rw [HLZ.out]) (by rw [List.length_append, HLT.out, HL8.out]; exact HQM.out) hq0
      have hf63 := own_free own8 63
      have hold := first_holds own8 (l := firstPage r) (by
        rw [HLZ.out, HL8.out, HT.out, HSM.out]
        exact first_set r HM.out HQM.out)
      clear o6 own7 o7 own8 at6 at7 own6
      obtain ⟨w9, hw9⟩ : ∃ x : World, x = w8.setCell ⟨g8, 63, none⟩ (.int .u8 1) := ⟨_, rfl⟩
      rw [← hw9] at hold
      have b69 : Below w3.heap.size w3 w9 := by rw [hw9]; exact b68.setCell (p := ⟨g8, 63, none⟩) hg8 _
      have hs9 := b69.size
      have hs89 : w3.heap.size ≤ w9.heap.size := hs9
      go_upto_region 11 with fail
      rw [← hw9]
      clear hw9
      obtain ⟨b, off, hba⟩ : ∃ b off, 0 < r.length - m → ba = some ⟨b, off, none⟩ := bytes_base hb0
      have hbm : 0 < r.length - m → Option.map (fun x => Addr.add x m) ba = some ⟨b, off + m, none⟩ := fun h => by rw [hba h]; simp [Addr.add_lit]
      have HBA := Lib.hid hba
      have HBM := Lib.hid hbm
      clear hba hbm
      obtain ⟨F, hF⟩ : ∃ F : Value, F = .slice (some ⟨g8, 0, none⟩) 64 cap8 := ⟨_, rfl⟩
      have HFV := Lib.hid hF
      have o55 : (w9.alloc (.cells #[.slice (some ⟨g8, 0, none⟩) 64 cap8] 26)).ownsRow w9.heap.size 26 1 (.slice (some ⟨w9.heap.size, 0, none⟩) 1 1) 1 [F] := by rw [hF]; exact one_own w9 _ 26
      have b9X := below_new w9 (.cells #[.slice (some ⟨g8, 0, none⟩) 64 cap8] 26)
      clear hF
      have hcmm : cnt (r.length - m) ≤ 100000 := by unfold cnt; omega
      obtain ⟨i1, hj, hy0, hy1, hy2⟩ := info_parts info26
      obtain ⟨L, hL⟩ : ∃ L, L = (List.range (cnt (r.length - m))).map (chV b (off + m) (r.length - m)) := ⟨_, rfl⟩
      have hLl : L.length = cnt (r.length - m) := by rw [hL, List.length_map, List.length_range]
      have honeL : ∀ y ∈ L, ∀ u ∈ (fun v : Value => [v]) y, u.oneCell' = true := by
        intro y hy u hu
        rw [hL] at hy
        obtain ⟨j, -, rfl⟩ := List.mem_map.1 hy
        simp at hu
        subst hu
        rfl
      have HLD := Lib.hid hL
      have HLl := Lib.hid hLl
      clear hL hLl
      have hM1 : 1 + L.length ≤ maxLen := by rw [HLl.out]; unfold maxLen; omega
      have hM2 : (1 + L.length) * 24 ≤ 140737488355328 := by rw [HLl.out]; omega
      go_cut [12] from 54 to 61 (fun vt wx => Below w9.heap.size w9 wx ∧ wx.ownsRow w9.heap.size 26 1 vt (1 + L.length) (F :: L))
      case first =>
        by_cases hbc : bc = m
        · have hP : (bc = m) = True := eq_true hbc
          have HBC := Lib.hid hbc
          clear hbc
          go_wp2_with fail
          refine (Chunk_any _ _ _ _).mono ?_
          rintro e w10 ⟨rfl, hw10⟩
          obtain ⟨gB, gC, bXB⟩ := two_boxes hw10
          rw [show (w9.alloc (.cells #[.slice (some ⟨g8, 0, none⟩) 64 cap8] 26)).heap.size = w9.heap.size + 1 by simp] at gB gC
          clear hw10
          have b9B := below_trans b9X bXB
          go_wp2_with fail
          refine (Collect_any _ _ b (off + m) (r.length - m) _ _ (fun h => by have := HBC.out; omega) (by omega) (by omega) (by omega) _ (cell_at (j := 0) gB rfl) (cell_at (j := 0) gC rfl)).mono ?_
          rintro e w11 ⟨u, rfl, hO, b11⟩
          have b9C := below_trans b9B b11
          have o55' := own_keep o55 (below_trans bXB b11)
          rw [← HLD.out, ← HLl.out] at hO
          have hx60 : IsRows 1 (fun v : Value => [v]) w11 u L := IsRows.of_owns (by rw [flat_one]; exact hO) (fun _ _ => rfl) (by unfold maxLen at hM1; omega)
          have hs11 := b9C.size
          go_wp2_with (at_builtin; refine wpList_append_rows rfl (fun v : Value => [v]) (.tmp 55) (.tmp 60) 22 rfl w9.heap.size 26 i1 (.slice none 0 0) 1 24 Try.underlying22 hj hy0 hy1 hy2 rfl (by decide) _ 1 [F] rfl o55' _ L rfl hx60 (fun _ _ => rfl) honeL hM1 hM2 hs11 ?_; intro v13 w13 own13 grow13 at13)
          go_meet
          case rel =>
            rw [flat_one] at own13
            exact ⟨below_grow b9C grow13 hs11 (own_from o55'), own13⟩
        · have hP : (bc = m) = False := eq_false hbc
          clear hbc
          go_wp2_with fail
          refine (Chunk_any _ _ _ _).mono ?_
          rintro e w10 ⟨rfl, hw10⟩
          obtain ⟨gB, gC, bXB⟩ := two_boxes hw10
          rw [show (w9.alloc (.cells #[.slice (some ⟨g8, 0, none⟩) 64 cap8] 26)).heap.size = w9.heap.size + 1 by simp] at gB gC
          clear hw10
          have b9B := below_trans b9X bXB
          go_wp2_with fail
          refine (Collect_any _ _ b (off + m) (r.length - m) _ _ HBM.out (by omega) (by omega) (by omega) _ (cell_at (j := 0) gB rfl) (cell_at (j := 0) gC rfl)).mono ?_
          rintro e w11 ⟨u, rfl, hO, b11⟩
          have b9C := below_trans b9B b11
          have o55' := own_keep o55 (below_trans bXB b11)
          rw [← HLD.out, ← HLl.out] at hO
          have hx60 : IsRows 1 (fun v : Value => [v]) w11 u L := IsRows.of_owns (by rw [flat_one]; exact hO) (fun _ _ => rfl) (by unfold maxLen at hM1; omega)
          have hs11 := b9C.size
          go_wp2_with (at_builtin; refine wpList_append_rows rfl (fun v : Value => [v]) (.tmp 55) (.tmp 60) 22 rfl w9.heap.size 26 i1 (.slice none 0 0) 1 24 Try.underlying22 hj hy0 hy1 hy2 rfl (by decide) _ 1 [F] rfl o55' _ L rfl hx60 (fun _ _ => rfl) honeL hM1 hM2 hs11 ?_; intro v13 w13 own13 grow13 at13)
          go_meet
          case rel =>
            rw [flat_one] at own13
            exact ⟨below_grow b9C grow13 hs11 (own_from o55'), own13⟩
      case rest =>
        obtain ⟨b9c, orow⟩ := hcut
        obtain ⟨wx, hwx⟩ : ∃ x : World, x = wc := ⟨_, rfl⟩
        subst hwx
        obtain ⟨P, hP⟩ : ∃ P, P = partsL r := ⟨_, rfl⟩
        obtain ⟨V, hV⟩ : ∃ V, V = F :: L := ⟨_, rfl⟩
        have hPp : P.length = p := by rw [hP, length_parts]; exact HP.out
        have hLP : 1 + L.length = P.length := by
          rw [HLl.out, hPp, ← HP.out, show m = min r.length 55 from HM.out]
          have := cnt_pages r
          have := pagesN_pos r.length
          rw [show r.length - min r.length 55 = r.length - 55 by omega]
          omega
        have hVl : V.length = P.length := by rw [hV, List.length_cons]; omega
        have RW := Lib.hid (round_writes HFM.out (show z + pagesN r.length ≤ 400 by rw [HP.out]; exact hz) hP)
        have AW := Lib.hid (show appendW z r = endW z r ++ (down P.length 0).map (wOf z P) by subst hP; exact appendW_down z r)
        rw [hLP, ← hV] at orow
        obtain ⟨gp, capp, hvp, hgp, hglp⟩ := own_pos orow (by rw [hPp]; have := HP.out; have := pagesN_pos r.length; omega)
        subst hvp
        have HPD := Lib.hid hP
        have HVD := Lib.hid hV
        have HPP := Lib.hid hPp
        have HVL := Lib.hid hVl
        have hn4 : P.length ≤ 400 := by omega
        have hzn : z + P.length ≤ 400 := by omega
        clear hP hV hPp hLP hVl hM1 hM2
        have b3x := below_trans b69 b9c
        have bbx := below_trans b1 (below_trans b2 (below_trans bA (below_trans b3 b3x)))
        have b0x := below_trans b0 bbx
        have gx0 := block_keep g0 bbx
        have gx1 := block_keep g1 bbx
        have gxA := block_keep gA3 b3x
        have hcA := cell_at (j := 0) gxA rfl
        obtain ⟨y0, y1, y2, f0, f1, f2⟩ := Box3.of gx0
        have hox : OffDisk (fun i => B i ∨ i = w.heap.size ∨ i = w.heap.size + 1) wx _ d := off_more HOFF.out b0x (by rintro β (rfl | rfl) <;> omega)
        obtain ⟨d2, hd2⟩ : ∃ d2 : Dk, d2 = ⟨d.pages, d.writes ++ endW z r, false⟩ := ⟨_, rfl⟩
        have H2 := Lib.hid hd2
        clear hd2
        obtain ⟨D, hD⟩ : ∃ D : List (Fin P.length) → Dk, ∀ pre, D pre = ⟨d.pages, d.writes ++ endW z r ++ pre.map (wOf z P), false⟩ := ⟨_, fun _ => rfl⟩
        have HD := Lib.hid hD
        have HD0 := Lib.hid (show D [] = d2 by rw [hD, H2.out]; simp)
        have HRW := Lib.hid (show ∀ pre (i : Fin P.length), writeD (D pre) ((z : Int) + (i.1 : Int)) P[i] = (D (pre ++ [i]), 0) by intro pre i; rw [hD, hD]; exact RW.out pre i)
        have HFin := Lib.hid (show D (down P.length 0) = ⟨d.pages, d.writes ++ appendW z r, false⟩ by rw [hD, AW.out, List.append_assoc])
        clear hD
        have hcapp : P.length ≤ capp ∧ capp ≤ 9223372036854775807 := own_cap orow
        obtain ⟨hcapp, hcapp2⟩ := hcapp
        have hg89 : g8 < w9.heap.size := by obtain ⟨_, hh, _⟩ := hold; exact block_lt hh
        have e1 := block_lt g1
        have e2 := b1.size
        have e3 := b2.size
        have e4 := bA.size
        have e5 := b3.size
        have e6 := b9c.size
        by_cases hlt : z + P.length < 400
        · have hq1 : decide ((z : Int) + (P.length : Int) < 400) = true := decide_eq_true (by omega)
          have HW := Lib.hid (show writeD d ((z : Int) + (P.length : Int)) [] = (d2, 0) by
            have := end_write (d := d) (z := z) (r := r) HFM.out HDN.out (by rw [HP.out, ← HPP.out]; exact hlt)
            rw [HP.out, ← HPP.out, ← H2.out, Int.natCast_add] at this
            exact this)
          go_wp2_with fail
          refine (Write_off (fun i => B i ∨ i = w.heap.size ∨ i = w.heap.size + 1) _ d _ _ [] _ hox (by have := block_lt gx1; rintro β (hβ | rfl | rfl) <;> first | omega | (have := HBB.out β hβ; omega)) (IsBytes.nil _) (by omega)).mono ?_
          intro e w14 hres
          obtain ⟨pa2, pc2, wa2, wk2, rfl, ho2, b14⟩ := off_to hres HW
          clear hres y0 y1 y2 f0 f1 f2 hq1
          have gz := block_keep gx0 b14
          obtain ⟨y0, y1, y2, f0, f1, f2⟩ := Box3.of gz
          have gy := box_set3 gz (.slice pa2 d2.pages.length pc2) (.slice wa2 d2.writes.length wk2) (.bool d2.down)
          have ho3 := off_set3 ho2 (.inr (.inl rfl)) (.slice pa2 d2.pages.length pc2) (.slice wa2 d2.writes.length wk2) (.bool d2.down)
          have kb := (KB.of_below (b := w.heap.size) b14 (Nat.le_refl _)).set3 (.slice pa2 d2.pages.length pc2) (.slice wa2 d2.writes.length wk2) (.bool d2.down)
          obtain ⟨wy, hwy⟩ : ∃ wy : World, wy = ((w14.setCell ⟨w.heap.size, 0, none⟩ (.slice pa2 d2.pages.length pc2)).setCell ⟨w.heap.size, 1, none⟩ (.slice wa2 d2.writes.length wk2)).setCell ⟨w.heap.size, 2, none⟩ (.bool d2.down) := ⟨_, rfl⟩
          rw [← hwy] at gy ho3 kb
          go_wp2_with fail
          rw [← hwy]
          clear hwy y0 y1 y2 f0 f1 f2
          refine (back22_any _ _ _ _).mono ?_
          rintro e w15 ⟨rfl, hw15⟩
          have gBk := heap_alloc_new wy (.cells #[.slice (some ⟨gp, 0, none⟩) P.length capp] 22)
          have b15 := below_new wy (.cells #[.slice (some ⟨gp, 0, none⟩) P.length capp] 22)
          rw [← hw15] at gBk b15
          clear hw15
          go_wp2_with fail
          have k15 : KB w.heap.size wx.heap.size wx w15 := kb.trans (KB.of_below b15 kb.size)
          have g15 := block_keep gy b15
          have ho15 := ho3.keep b15
          have hs15 := b15.size
          have hsy := kb.size
          have hlt15 := block_lt gBk
          have hAt : ∀ W, KB w.heap.size w15.heap.size w15 W → W.heap[w2.heap.size]? = some (.cells #[.int .i64 z] 3 (0, 0)) := fun W h => h.cells (k15.cells gxA (by have := block_lt gxA; omega) (by omega)) (by have := block_lt gxA; omega) (by omega)
          have hBk : ∀ W, KB w.heap.size w15.heap.size w15 W → W.cell? ⟨wy.heap.size, 0, none⟩ = some (.slice (some ⟨gp, 0, none⟩) P.length capp) := fun W h => cell_at (j := 0) (h.cells gBk hlt15 (by omega)) rfl
          obtain ⟨fa, fl, fc, hPt⟩ : ∃ (fa : Fin P.length → Option Addr) (fl fc : Fin P.length → Nat), ∀ (i : Fin P.length) W, KB w.heap.size w15.heap.size w15 W → V[i.1]? = some (.slice (fa i) (fl i) (fc i)) ∧ IsBytes W (.slice (fa i) (fl i) (fc i)) P[i] := ⟨fun i => slA (V.getD i.1 undef), fun i => slN (V.getD i.1 undef), fun i => slC (V.getD i.1 undef), fun i W h =>
            part_is HPD.out HM.out (by rw [HVD.out, HFV.out, HLD.out]) hold HBA.out hb0 ((h.block g8 (by omega) (by omega)).trans ((k15.block g8 (by omega) (by omega)).trans (b9c.block g8 hg89))) ((b0x.trans (k15.below (by omega))).trans (h.below (by omega))) i.1 i.2⟩
          have hRow : ∀ (i : Fin P.length) W, KB w.heap.size w15.heap.size w15 W → ∃ b off, some (⟨gp, 0, none⟩ : Addr) = some ⟨b, off, none⟩ ∧ W.cell? ⟨b, off + i.1, none⟩ = some (.slice (fa i) (fl i) (fc i)) := fun i W h =>
            ⟨gp, 0, rfl, row_cells orow ((h.block gp (by omega) (by omega)).trans (k15.block gp hglp (by omega))) (hPt i W h).1⟩
          have hseq := back_told fa fl fc wy.heap.size (some ⟨gp, 0, none⟩) capp hcapp hcapp2 (KB w.heap.size w15.heap.size) (KB.refl _ _) KB.trans w15 (fun W W' h1 h2 => hBk W' ((KB.of_below h1 (Nat.le_refl _)).trans h2)) (fun i W W' h1 h2 => hRow i W' ((KB.of_below h1 (Nat.le_refl _)).trans h2))
          have HAT := Lib.hid hAt
          have HPT := Lib.hid hPt
          clear hAt hPt hRow hBk
          refine (wpIn_wide (n := 4)).1 ?_
          refine range_told (α := Fin P.length) rfl (by decide) (gf := 86) (lb := #[.pointer (some ⟨wy.heap.size, 0, none⟩)]) rfl trivial (enters_of Try.func86 (by kernel_rfl) rfl) hseq KB.trans (KB.put (w := w15)) (Below.refl _ _) (fun _ => rfl) (fun _ _ _ _ hs _ _ => hs)
            (fun pre W => (∃ pq cq wq kq, W.heap[w.heap.size]? = some (.cells #[.slice pq (D pre).pages.length cq, .slice wq (D pre).writes.length kq, .bool (D pre).down] 25 (0, 0)) ∧ OffDisk (fun i => B i ∨ i = w.heap.size ∨ i = w.heap.size + 1) W (.agg #[.slice pq (D pre).pages.length cq, .slice wq (D pre).writes.length kq, .bool (D pre).down]) (D pre)) ∧ KB w.heap.size w15.heap.size w15 W)
            (fun _ _ _ _ hs hg hr => by
              obtain ⟨⟨pq, cq, wq, kq, hq1, hq2⟩, hq3⟩ := hs
              exact ⟨⟨pq, cq, wq, kq, cells_grown hq1 hg fun r e => (hr r e).2, hq2.grown hg fun r e => (hr r e).2⟩, hq3.trans (KB.grown (w := w15) hg (Nat.le_refl _) hq3.size fun r e => (hr r e).1)⟩)
            ⟨⟨_, _, _, _, by rw [HD0.out]; exact g15, by rw [HD0.out]; exact ho15⟩, KB.refl _ _ _⟩
            (fun x a' _ => a' = { tmps := #[Value.agg #[Value.slice pa d.pages.length pc, Value.slice wa d.writes.length wk, Value.bool d.down], Value.int IntKind.i64 k, Value.slice ba r.length bc, Value.pointer (some { block := w.heap.size, off := 0 }), undef, undef, Value.pointer (some { block := w.heap.size + 1, off := 0 }), Value.int IntKind.i64 0, Value.int IntKind.i64 0, Value.pointer (some { block := w2.heap.size, off := 0 }), Value.slice (some { block := g8, off := 0 }) 64 cap8, Value.int IntKind.i64 ↑m, Value.slice (some { block := gp, off := 0 }) P.length capp, Value.int IntKind.i64 (↑z + ↑P.length), Value.int IntKind.i64 (x.1 : Int), Value.slice (fa x) (fl x) (fc x), Value.agg #[Value.slice pa d.pages.length pc, Value.slice wa d.writes.length wk, Value.bool d.down], Value.int IntKind.i64 k, Value.int IntKind.i64 0, Value.int IntKind.i64 0, Value.bool false, undef, undef, Value.agg #[Value.slice pa d.pages.length pc, Value.slice wa d.writes.length wk, Value.bool d.down], Value.int IntKind.i64 k, Value.int IntKind.i64 ↑z, u26, u27, u28, u29, Value.bool false, undef, Value.slice ba r.length bc, Value.int IntKind.i64 ↑r.length, Value.int IntKind.u32 ↑r.length, Value.slice (some { block := w3.heap.size, off := 0 }) 4 4, Value.slice ba r.length bc, Value.int IntKind.u32 ↑sm, Value.slice (some { block := w4.heap.size, off := 0 }) 4 4, Value.slice (some { block := g6, off := 0 }) 8 cap6, u40, u41, u42, Value.slice (some { block := g6, off := 0 }) 8 cap6, Value.slice ba r.length bc, Value.int IntKind.i64 ↑m, Value.slice ba m bc, Value.slice (some { block := g7, off := 0 }) (8 + m) cap7, Value.int IntKind.i64 ↑m, Value.int IntKind.i64 (55 - ↑m), Value.int IntKind.i64 (55 - ↑m + 1), Value.slice (some { block := g8, off := 0 }) 64 cap8, Value.slice (some { block := g8, off := 0 }) 64 cap8, Value.pointer (some { block := g8, off := 63 }), u54, u55, u56, u57, u58, u59, u60, u61, Value.int IntKind.i64 ↑z, Value.slice (some { block := gp, off := 0 }) P.length capp, Value.int IntKind.i64 ↑P.length, Value.int IntKind.i64 (↑z + ↑P.length), Value.int IntKind.i64 (↑z + ↑P.length), Value.bool true, Value.tuple #[Value.agg #[Value.slice pa2 d2.pages.length pc2, Value.slice wa2 d2.writes.length wk2, Value.bool d2.down], Value.int IntKind.i64 0], Value.agg #[Value.slice pa d.pages.length pc, Value.slice wa d.writes.length wk, Value.bool d.down], Value.int IntKind.i64 (↑z + ↑P.length), Value.tuple #[Value.agg #[Value.slice pa2 d2.pages.length pc2, Value.slice wa2 d2.writes.length wk2, Value.bool d2.down], Value.int IntKind.i64 0], Value.agg #[Value.slice pa2 d2.pages.length pc2, Value.slice wa2 d2.writes.length wk2, Value.bool d2.down], Value.int IntKind.i64 0, Value.slice (some { block := gp, off := 0 }) P.length capp, Value.func (Fn.func 86) #[] #[Value.pointer (some { block := wy.heap.size, off := 0 })], Value.int IntKind.i64 (x.1 : Int), Value.slice (fa x) (fl x) (fc x), undef, undef, undef, undef, undef, undef, undef, undef, undef, undef], defers := [] })
            (fun _ _ _ _ _ _ hs _ _ => hs) ?assign ?body ?done
          case assign =>
            rintro l pre x W K hI hK
            unfold encP
            gi_wp2
            exact hK _ _ (KeepsFrom.refl _ _) (KB.refl _ _ _) hI rfl
          case body =>
            rintro l pre x a' W hl ⟨⟨pq, cq, wq, kq, gq, hoq⟩, hKB⟩ rfl hltx
            have hpart := (HPT.out x W hKB).2
            have gAt := HAT.out W hKB
            have hcA2 := cell_at (j := 0) gAt rfl
            have hx2 : x.1 < P.length := x.2
            have hBl : ∀ β, (B β ∨ β = w.heap.size ∨ β = w.heap.size + 1) → β < W.heap.size := by have := hKB.size; rintro β (hβ | rfl | rfl) <;> first | omega | (have := HBB.out β hβ; omega)
            have hDl : (D pre).writes.length ≤ 100000000 := by
              rw [HD.out]
              have := endW_len z r
              simp only [List.length_append, List.length_map]
              omega
            obtain ⟨y0, y1, y2, f0, f1, f2⟩ := Box3.of gq
            gi_wp2_with fail
            refine ⟨trivial, ?_⟩
            (with_reducible refine (CallsIn.inRound l (callsIn_wide.2 (Write_off (fun i => B i ∨ i = w.heap.size ∨ i = w.heap.size + 1) _ (D pre) ((z : Int) + (x.1 : Int)) _ P[x] W hoq hBl hpart hDl))).mono ?_)
            intro e w20 hres
            obtain ⟨pa3, pc3, wa3, wk3, rfl, hoe, b20⟩ := off_to hres (HRW.out pre x)
            clear hres y0 y1 y2 f0 f1 f2
            have gz := block_keep gq b20
            obtain ⟨y0, y1, y2, f0, f1, f2⟩ := Box3.of gz
            have gy2 := box_set3 gz (.slice pa3 (D (pre ++ [x])).pages.length pc3) (.slice wa3 (D (pre ++ [x])).writes.length wk3) (.bool (D (pre ++ [x])).down)
            have ho4 := off_set3 hoe (.inr (.inl rfl)) (.slice pa3 (D (pre ++ [x])).pages.length pc3) (.slice wa3 (D (pre ++ [x])).writes.length wk3) (.bool (D (pre ++ [x])).down)
            have kb2 := (KB.of_below (b := w.heap.size) b20 hKB.size).set3 (.slice pa3 (D (pre ++ [x])).pages.length pc3) (.slice wa3 (D (pre ++ [x])).writes.length wk3) (.bool (D (pre ++ [x])).down)
            have kf := keeps_set3 (N := w15.heap.size) (b := w.heap.size) b20 (by omega) (.slice pa3 (D (pre ++ [x])).pages.length pc3) (.slice wa3 (D (pre ++ [x])).writes.length wk3) (.bool (D (pre ++ [x])).down)
            gi_wp2
            first
              | exact ⟨rfl, kf, kb2, ⟨_, _, _, _, gy2, ho4⟩, hKB.trans kb2⟩
              | exact ⟨⟨_, _, _, _, ⟨⟨rfl, rfl⟩, rfl, rfl⟩, ho4⟩, hKB.trans kb2⟩
              | exact ⟨kf, kb2, ⟨_, _, _, _, gy2, ho4⟩, hKB.trans kb2⟩
          case done =>
            rintro D' ys W hD rfl ⟨⟨pq, cq, wq, kq, gq, hoq⟩, hKB⟩ hK
            obtain ⟨y0, y1, y2, -, -, -⟩ := Box3.of gq
            have gq1 : W.heap[w.heap.size + 1]? = _ := hKB.cells (block_keep (k15.cells gx1 (by have := block_lt gx1; omega) (by omega)) (Below.refl _ _)) (by have := block_lt gx1; omega) (by omega)
            obtain ⟨u0, u1, u2, uf0, uf1, uf2⟩ := Box3.of gq1
            have gR := box_set3 gq1 (.slice pq (D (down P.length 0)).pages.length cq) (.slice wq (D (down P.length 0)).writes.length kq) (.bool (D (down P.length 0)).down)
            have hoR := off_set3 hoq (.inr (.inr rfl)) (.slice pq (D (down P.length 0)).pages.length cq) (.slice wq (D (down P.length 0)).writes.length kq) (.bool (D (down P.length 0)).down)
            have kR := keeps_set3 (N := w15.heap.size) (b := w.heap.size + 1) (Below.refl _ W) (by omega) (.slice pq (D (down P.length 0)).pages.length cq) (.slice wq (D (down P.length 0)).writes.length kq) (.bool (D (down P.length 0)).down)
            have hKR := kR.same D' _ hD hK rfl
            have bR := ((((b0x.trans (k15.below (by omega))).trans (hKB.below (by omega))).setCell (p := ⟨w.heap.size + 1, 0, none⟩) (by simp) (.slice pq (D (down P.length 0)).pages.length cq)).setCell (p := ⟨w.heap.size + 1, 1, none⟩) (by simp) (.slice wq (D (down P.length 0)).writes.length kq)).setCell (p := ⟨w.heap.size + 1, 2, none⟩) (by simp) (.bool (D (down P.length 0)).down)
            have hsW := hKB.size
            go_wp2
            refine ⟨by simp, .inl ⟨_, _, rfl, run_takeDeferred hKR, ?_⟩⟩
            obtain ⟨r0, r1, r2, -, -, -⟩ := Box3.of gR
            have hkX := putObj_keeps (o' := .deferred none) hKR rfl
            replace r0 := hkX _ _ r0
            replace r1 := hkX _ _ r1
            replace r2 := hkX _ _ r2
            have hoX := (hoR.grown (grownBy_putObj' _ D' (.deferred none)) (fun r e => by cases e; exact ⟨_, hKR, rfl⟩)).less (fun i hi => .inl hi)
            have bX := bR.trans (belowK_b (w := w15) (n₀ := w.heap.size) (by omega) _ D' _ (.deferred none) hD hKR rfl rfl)
            clear hkX hKR hoR gR kR bR
            refine ⟨Value.tuple #[Value.agg #[Value.slice pq (D (down P.length 0)).pages.length cq, Value.slice wq (D (down P.length 0)).writes.length kq, Value.bool (D (down P.length 0)).down], Value.int .i64 0], ?_, ?_⟩
            · simp [results, Try.results43, go_sem, r0, r1, r2]
            · exact ⟨Value.agg #[Value.slice pq (D (down P.length 0)).pages.length cq, Value.slice wq (D (down P.length 0)).writes.length kq, Value.bool (D (down P.length 0)).down], by rw [HR.out], by rw [HR.out, ← HFin.out]; exact hoX, bX⟩
        · have hq1 : decide ((z : Int) + (P.length : Int) < 400) = false := decide_eq_false (by omega)
          have hd2 : d2 = d := by
            rw [H2.out]; unfold endW
            rw [if_neg (by rw [HP.out, ← HPP.out]; exact hlt), List.append_nil, ← HDN.out]
          have gy : wx.heap[w.heap.size]? = some (.cells #[.slice pa d2.pages.length pc, .slice wa d2.writes.length wk, .bool d2.down] 25 (0, 0)) := by rw [hd2]; exact gx0
          have ho3 : OffDisk (fun i => B i ∨ i = w.heap.size ∨ i = w.heap.size + 1) wx (.agg #[.slice pa d2.pages.length pc, .slice wa d2.writes.length wk, .bool d2.down]) d2 := by rw [hd2]; exact hox
          have kb := KB.refl w.heap.size wx.heap.size wx
          clear hd2
          go_wp2_with fail
          clear y0 y1 y2 f0 f1 f2
          refine (back22_any _ _ _ _).mono ?_
          rintro e w15 ⟨rfl, hw15⟩
          have gBk := heap_alloc_new wx (.cells #[.slice (some ⟨gp, 0, none⟩) P.length capp] 22)
          have b15 := below_new wx (.cells #[.slice (some ⟨gp, 0, none⟩) P.length capp] 22)
          rw [← hw15] at gBk b15
          clear hw15
          go_wp2_with fail
          have k15 : KB w.heap.size wx.heap.size wx w15 := kb.trans (KB.of_below b15 kb.size)
          have g15 := block_keep gy b15
          have ho15 := ho3.keep b15
          have hs15 := b15.size
          have hsy := kb.size
          have hlt15 := block_lt gBk
          have hAt : ∀ W, KB w.heap.size w15.heap.size w15 W → W.heap[w2.heap.size]? = some (.cells #[.int .i64 z] 3 (0, 0)) := fun W h => h.cells (k15.cells gxA (by have := block_lt gxA; omega) (by omega)) (by have := block_lt gxA; omega) (by omega)
          have hBk : ∀ W, KB w.heap.size w15.heap.size w15 W → W.cell? ⟨wx.heap.size, 0, none⟩ = some (.slice (some ⟨gp, 0, none⟩) P.length capp) := fun W h => cell_at (j := 0) (h.cells gBk hlt15 (by omega)) rfl
          obtain ⟨fa, fl, fc, hPt⟩ : ∃ (fa : Fin P.length → Option Addr) (fl fc : Fin P.length → Nat), ∀ (i : Fin P.length) W, KB w.heap.size w15.heap.size w15 W → V[i.1]? = some (.slice (fa i) (fl i) (fc i)) ∧ IsBytes W (.slice (fa i) (fl i) (fc i)) P[i] := ⟨fun i => slA (V.getD i.1 undef), fun i => slN (V.getD i.1 undef), fun i => slC (V.getD i.1 undef), fun i W h =>
            part_is HPD.out HM.out (by rw [HVD.out, HFV.out, HLD.out]) hold HBA.out hb0 ((h.block g8 (by omega) (by omega)).trans ((k15.block g8 (by omega) (by omega)).trans (b9c.block g8 hg89))) ((b0x.trans (k15.below (by omega))).trans (h.below (by omega))) i.1 i.2⟩
          have hRow : ∀ (i : Fin P.length) W, KB w.heap.size w15.heap.size w15 W → ∃ b off, some (⟨gp, 0, none⟩ : Addr) = some ⟨b, off, none⟩ ∧ W.cell? ⟨b, off + i.1, none⟩ = some (.slice (fa i) (fl i) (fc i)) := fun i W h =>
            ⟨gp, 0, rfl, row_cells orow ((h.block gp (by omega) (by omega)).trans (k15.block gp hglp (by omega))) (hPt i W h).1⟩
          have hseq := back_told fa fl fc wx.heap.size (some ⟨gp, 0, none⟩) capp hcapp hcapp2 (KB w.heap.size w15.heap.size) (KB.refl _ _) KB.trans w15 (fun W W' h1 h2 => hBk W' ((KB.of_below h1 (Nat.le_refl _)).trans h2)) (fun i W W' h1 h2 => hRow i W' ((KB.of_below h1 (Nat.le_refl _)).trans h2))
          have HAT := Lib.hid hAt
          have HPT := Lib.hid hPt
          clear hAt hPt hRow hBk
          refine (wpIn_wide (n := 4)).1 ?_
          refine range_told (α := Fin P.length) rfl (by decide) (gf := 86) (lb := #[.pointer (some ⟨wx.heap.size, 0, none⟩)]) rfl trivial (enters_of Try.func86 (by kernel_rfl) rfl) hseq KB.trans (KB.put (w := w15)) (Below.refl _ _) (fun _ => rfl) (fun _ _ _ _ hs _ _ => hs)
            (fun pre W => (∃ pq cq wq kq, W.heap[w.heap.size]? = some (.cells #[.slice pq (D pre).pages.length cq, .slice wq (D pre).writes.length kq, .bool (D pre).down] 25 (0, 0)) ∧ OffDisk (fun i => B i ∨ i = w.heap.size ∨ i = w.heap.size + 1) W (.agg #[.slice pq (D pre).pages.length cq, .slice wq (D pre).writes.length kq, .bool (D pre).down]) (D pre)) ∧ KB w.heap.size w15.heap.size w15 W)
            (fun _ _ _ _ hs hg hr => by
              obtain ⟨⟨pq, cq, wq, kq, hq1, hq2⟩, hq3⟩ := hs
              exact ⟨⟨pq, cq, wq, kq, cells_grown hq1 hg fun r e => (hr r e).2, hq2.grown hg fun r e => (hr r e).2⟩, hq3.trans (KB.grown (w := w15) hg (Nat.le_refl _) hq3.size fun r e => (hr r e).1)⟩)
            ⟨⟨_, _, _, _, by rw [HD0.out]; exact g15, by rw [HD0.out]; exact ho15⟩, KB.refl _ _ _⟩
            (fun x a' _ => a' = { tmps := #[Value.agg #[Value.slice pa d.pages.length pc, Value.slice wa d.writes.length wk, Value.bool d.down], Value.int IntKind.i64 k, Value.slice ba r.length bc, Value.pointer (some { block := w.heap.size, off := 0 }), undef, undef, Value.pointer (some { block := w.heap.size + 1, off := 0 }), Value.int IntKind.i64 0, Value.int IntKind.i64 0, Value.pointer (some { block := w2.heap.size, off := 0 }), Value.slice (some { block := g8, off := 0 }) 64 cap8, Value.int IntKind.i64 ↑m, Value.slice (some { block := gp, off := 0 }) P.length capp, Value.int IntKind.i64 (↑z + ↑P.length), Value.int IntKind.i64 (x.1 : Int), Value.slice (fa x) (fl x) (fc x), Value.agg #[Value.slice pa d.pages.length pc, Value.slice wa d.writes.length wk, Value.bool d.down], Value.int IntKind.i64 k, Value.int IntKind.i64 0, Value.int IntKind.i64 0, Value.bool false, undef, undef, Value.agg #[Value.slice pa d.pages.length pc, Value.slice wa d.writes.length wk, Value.bool d.down], Value.int IntKind.i64 k, Value.int IntKind.i64 ↑z, u26, u27, u28, u29, Value.bool false, undef, Value.slice ba r.length bc, Value.int IntKind.i64 ↑r.length, Value.int IntKind.u32 ↑r.length, Value.slice (some { block := w3.heap.size, off := 0 }) 4 4, Value.slice ba r.length bc, Value.int IntKind.u32 ↑sm, Value.slice (some { block := w4.heap.size, off := 0 }) 4 4, Value.slice (some { block := g6, off := 0 }) 8 cap6, u40, u41, u42, Value.slice (some { block := g6, off := 0 }) 8 cap6, Value.slice ba r.length bc, Value.int IntKind.i64 ↑m, Value.slice ba m bc, Value.slice (some { block := g7, off := 0 }) (8 + m) cap7, Value.int IntKind.i64 ↑m, Value.int IntKind.i64 (55 - ↑m), Value.int IntKind.i64 (55 - ↑m + 1), Value.slice (some { block := g8, off := 0 }) 64 cap8, Value.slice (some { block := g8, off := 0 }) 64 cap8, Value.pointer (some { block := g8, off := 63 }), u54, u55, u56, u57, u58, u59, u60, u61, Value.int IntKind.i64 ↑z, Value.slice (some { block := gp, off := 0 }) P.length capp, Value.int IntKind.i64 ↑P.length, Value.int IntKind.i64 (↑z + ↑P.length), Value.int IntKind.i64 (↑z + ↑P.length), Value.bool false, undef, undef, undef, undef, undef, undef, Value.slice (some { block := gp, off := 0 }) P.length capp, Value.func (Fn.func 86) #[] #[Value.pointer (some { block := wx.heap.size, off := 0 })], Value.int IntKind.i64 (x.1 : Int), Value.slice (fa x) (fl x) (fc x), undef, undef, undef, undef, undef, undef, undef, undef, undef, undef], defers := [] })
            (fun _ _ _ _ _ _ hs _ _ => hs) ?assign ?body ?done
          case assign =>
            rintro l pre x W K hI hK
            unfold encP
            gi_wp2
            exact hK _ _ (KeepsFrom.refl _ _) (KB.refl _ _ _) hI rfl
          case body =>
            rintro l pre x a' W hl ⟨⟨pq, cq, wq, kq, gq, hoq⟩, hKB⟩ rfl hltx
            have hpart := (HPT.out x W hKB).2
            have gAt := HAT.out W hKB
            have hcA2 := cell_at (j := 0) gAt rfl
            have hx2 : x.1 < P.length := x.2
            have hBl : ∀ β, (B β ∨ β = w.heap.size ∨ β = w.heap.size + 1) → β < W.heap.size := by have := hKB.size; rintro β (hβ | rfl | rfl) <;> first | omega | (have := HBB.out β hβ; omega)
            have hDl : (D pre).writes.length ≤ 100000000 := by
              rw [HD.out]
              have := endW_len z r
              simp only [List.length_append, List.length_map]
              omega
            obtain ⟨y0, y1, y2, f0, f1, f2⟩ := Box3.of gq
            gi_wp2_with fail
            refine ⟨trivial, ?_⟩
            (with_reducible refine (CallsIn.inRound l (callsIn_wide.2 (Write_off (fun i => B i ∨ i = w.heap.size ∨ i = w.heap.size + 1) _ (D pre) ((z : Int) + (x.1 : Int)) _ P[x] W hoq hBl hpart hDl))).mono ?_)
            intro e w20 hres
            obtain ⟨pa3, pc3, wa3, wk3, rfl, hoe, b20⟩ := off_to hres (HRW.out pre x)
            clear hres y0 y1 y2 f0 f1 f2
            have gz := block_keep gq b20
            obtain ⟨y0, y1, y2, f0, f1, f2⟩ := Box3.of gz
            have gy2 := box_set3 gz (.slice pa3 (D (pre ++ [x])).pages.length pc3) (.slice wa3 (D (pre ++ [x])).writes.length wk3) (.bool (D (pre ++ [x])).down)
            have ho4 := off_set3 hoe (.inr (.inl rfl)) (.slice pa3 (D (pre ++ [x])).pages.length pc3) (.slice wa3 (D (pre ++ [x])).writes.length wk3) (.bool (D (pre ++ [x])).down)
            have kb2 := (KB.of_below (b := w.heap.size) b20 hKB.size).set3 (.slice pa3 (D (pre ++ [x])).pages.length pc3) (.slice wa3 (D (pre ++ [x])).writes.length wk3) (.bool (D (pre ++ [x])).down)
            have kf := keeps_set3 (N := w15.heap.size) (b := w.heap.size) b20 (by omega) (.slice pa3 (D (pre ++ [x])).pages.length pc3) (.slice wa3 (D (pre ++ [x])).writes.length wk3) (.bool (D (pre ++ [x])).down)
            gi_wp2
            first
              | exact ⟨rfl, kf, kb2, ⟨_, _, _, _, gy2, ho4⟩, hKB.trans kb2⟩
              | exact ⟨⟨_, _, _, _, ⟨⟨rfl, rfl⟩, rfl, rfl⟩, ho4⟩, hKB.trans kb2⟩
              | exact ⟨kf, kb2, ⟨_, _, _, _, gy2, ho4⟩, hKB.trans kb2⟩
          case done =>
            rintro D' ys W hD rfl ⟨⟨pq, cq, wq, kq, gq, hoq⟩, hKB⟩ hK
            obtain ⟨y0, y1, y2, -, -, -⟩ := Box3.of gq
            have gq1 : W.heap[w.heap.size + 1]? = _ := hKB.cells (block_keep (k15.cells gx1 (by have := block_lt gx1; omega) (by omega)) (Below.refl _ _)) (by have := block_lt gx1; omega) (by omega)
            obtain ⟨u0, u1, u2, uf0, uf1, uf2⟩ := Box3.of gq1
            have gR := box_set3 gq1 (.slice pq (D (down P.length 0)).pages.length cq) (.slice wq (D (down P.length 0)).writes.length kq) (.bool (D (down P.length 0)).down)
            have hoR := off_set3 hoq (.inr (.inr rfl)) (.slice pq (D (down P.length 0)).pages.length cq) (.slice wq (D (down P.length 0)).writes.length kq) (.bool (D (down P.length 0)).down)
            have kR := keeps_set3 (N := w15.heap.size) (b := w.heap.size + 1) (Below.refl _ W) (by omega) (.slice pq (D (down P.length 0)).pages.length cq) (.slice wq (D (down P.length 0)).writes.length kq) (.bool (D (down P.length 0)).down)
            have hKR := kR.same D' _ hD hK rfl
            have bR := ((((b0x.trans (k15.below (by omega))).trans (hKB.below (by omega))).setCell (p := ⟨w.heap.size + 1, 0, none⟩) (by simp) (.slice pq (D (down P.length 0)).pages.length cq)).setCell (p := ⟨w.heap.size + 1, 1, none⟩) (by simp) (.slice wq (D (down P.length 0)).writes.length kq)).setCell (p := ⟨w.heap.size + 1, 2, none⟩) (by simp) (.bool (D (down P.length 0)).down)
            have hsW := hKB.size
            go_wp2
            refine ⟨by simp, .inl ⟨_, _, rfl, run_takeDeferred hKR, ?_⟩⟩
            obtain ⟨r0, r1, r2, -, -, -⟩ := Box3.of gR
            have hkX := putObj_keeps (o' := .deferred none) hKR rfl
            replace r0 := hkX _ _ r0
            replace r1 := hkX _ _ r1
            replace r2 := hkX _ _ r2
            have hoX := (hoR.grown (grownBy_putObj' _ D' (.deferred none)) (fun r e => by cases e; exact ⟨_, hKR, rfl⟩)).less (fun i hi => .inl hi)
            have bX := bR.trans (belowK_b (w := w15) (n₀ := w.heap.size) (by omega) _ D' _ (.deferred none) hD hKR rfl rfl)
            clear hkX hKR hoR gR kR bR
            refine ⟨Value.tuple #[Value.agg #[Value.slice pq (D (down P.length 0)).pages.length cq, Value.slice wq (D (down P.length 0)).writes.length kq, Value.bool (D (down P.length 0)).down], Value.int .i64 0], ?_, ?_⟩
            · simp [results, Try.results43, go_sem, r0, r1, r2]
            · exact ⟨Value.agg #[Value.slice pq (D (down P.length 0)).pages.length cq, Value.slice wq (D (down P.length 0)).writes.length kq, Value.bool (D (down P.length 0)).down], by rw [HR.out], by rw [HR.out, ← HFin.out]; exact hoX, bX⟩
theorem Append_off (B : Nat → Prop) (v : Value) (d : Dk) (k : Int) (bv : Value) (r : List UInt8) (w : World) (h : OffDisk B w v d) (hB : ∀ β, B β → β < w.heap.size) (hb : IsBytes w bv r) (hl : r.length ≤ 1000000) (hwl : d.writes.length ≤ 1000000) : Calls Try.prog 43 #[v, .int .i64 k, bv] w (DiskErrOff B (appendD d k r) w) := by
  by_cases hf : failure d k = 0
  · by_cases hz : zOf d k + pagesN r.length ≤ 400
    · exact callsIn_wide.1 (Append_in_off B v d k bv r w h hB hb hl hf hz hwl)
    · exact Append_lim_off B v d k bv r w h hB hb hl hf (by omega)
  · exact Append_err_off B v d k bv r w h hB hb hf
end Go.Proofs.Ytcembocnkndlhaa
/- The reference's Same of lists of records. -/
namespace Go.Proofs.Ytcembocnkndlhaa
open Go.RowKit
theorem pages_form {w : World} {v : Value} {L : List (List UInt8)} (h : IsPages w v L) : ∃ a c, v = .slice a L.length c ∧ L.length ≤ 9223372036854775807 ∧ L.length ≤ c ∧ c ≤ 9223372036854775807 := by
  obtain ⟨vs, ⟨a, c, rfl, _, hm⟩, hl, _⟩ := h
  rw [hl] at hm ⊢
  exact ⟨a, c, rfl, hm⟩
set_option maxHeartbeats 2000000 in
set_option maxRecDepth 100000 in
theorem rSame_any (va vb : Value) (ps qs : List (List UInt8)) (w : World) (ha : IsPages w va ps) (hb : IsPages w vb qs) :
    Calls Try.prog 45 #[va, vb] w fun e w' => e = .returned (.bool (decide (ps = qs))) ∧ Below w.heap.size w w' := by
  obtain ⟨pa, pc, rfl, m1⟩ := pages_form ha
  obtain ⟨qa, qc, rfl, m2⟩ := pages_form hb
  obtain ⟨R, hR⟩ : ∃ R, decide (ps = qs) = R := ⟨_, rfl⟩
  have HR := Lib.hid hR
  rw [hR]
  clear hR
  have hno : ¬ ps = qs → R = false := fun h => by rw [← HR.out]; exact decide_eq_false h
  by_cases e1 : ps.length = qs.length
  case neg =>
    have hn := hno (fun e => e1 (congrArg List.length e))
    subst hn
    have hb1 : ((ps.length : Int) != (qs.length : Int)) = true := by rw [bne_iff_ne]; omega
    clear hno
    go_enter Try.func45, Try.ntmps45
    go_wp2
    go_ret
    exact ⟨rfl, Below.refl _ _⟩
  have hb1 : ((ps.length : Int) != (qs.length : Int)) = false := by rw [bne_eq_false_iff_eq]; omega
  have E1 := Lib.hid e1
  have i1 : ps.length ≤ qs.length := by omega
  clear e1
  go_enter Try.func45, Try.ntmps45
  go_wp2
  have hz0 : ∀ n, Below w.heap.size w (w.drewN n) := fun n => below_drewN (Below.refl _ _) n
  go_loopw [5] (fun i wr => ∃ k : Nat, k ≤ ps.length ∧ i = .int .i64 k ∧ Hid (ps.take k = qs.take k) ∧ ∃ n, wr = w.drewN n) (fun i _ => ps.length - (intOf i).toNat)
  case atStart => exact ⟨0, Nat.zero_le _, rfl, Lib.hid (by simp), 0, rfl⟩
  case round =>
    obtain ⟨k, hk, rfl, hse, n, hwr⟩ := hrel
    obtain ⟨wo, rfl⟩ : ∃ wo : World, wo = wr := ⟨_, rfl⟩
    have b1 : Below w.heap.size w wo := by rw [hwr]; exact hz0 n
    have HW := Lib.hid hwr
    have bo := b1
    clear hwr
    by_cases hlt : k < ps.length
    · have hlt' : k < qs.length := by omega
      obtain ⟨c1b, o1, va, vc, rfl, c1, hB1⟩ := (ha.keep b1).at_ (List.getElem?_eq_getElem hlt)
      obtain ⟨c2b, o2, vb, vd, rfl, c2, hB2⟩ := (hb.keep b1).at_ (List.getElem?_eq_getElem hlt')
      by_cases he : ps[k] = qs[k]
      · have hse' := Lib.hid (take_same hlt hlt' hse.out he)
        have hQ := fun n => Lib.hid (bytes_quiet n hB1 hB2 true (decide_eq_true he))
        clear he
        generalize ps[k] = x at *
        generalize qs[k] = y at *
        go_wp2
        go_quiet ((go_at_call 26; exact (hQ _).out))
        go_wp2
        go_roundw
        case rel => exact ⟨k + 1, by omega, by go_num, hse', n + nq, by rw [HW.out]; simp⟩
        case measure => simp [intOf]; omega
      · have hn := hno (fun e => he (by subst e; rfl))
        subst hn
        have hQ := fun n => Lib.hid (bytes_quiet n hB1 hB2 false (decide_eq_false he))
        clear he hno
        generalize ps[k] = x at *
        generalize qs[k] = y at *
        go_wp2
        go_quiet ((go_at_call 26; exact (hQ _).out))
        go_wp2
        go_ret
        exact ⟨rfl, below_drewN bo _⟩
    · have e : k = ps.length := by omega
      subst e
      have HPQ := Lib.hid (show R = true by
        rw [← HR.out]
        apply decide_eq_true
        have := hse.out; rw [List.take_length, E1.out, List.take_length] at this; exact this)
      go_wp2
      go_ret
      exact ⟨by rw [HPQ.out]; rfl, bo⟩
end Go.Proofs.Ytcembocnkndlhaa
/- The logs' head: what its examples give. -/
namespace Go.Proofs.Ytcembocnkndlhaa
open Go.RowKit
theorem log_facts : ∃ (d1 d2 d3 d4 c e : Dk), Hid (appendD noDisk 5 [97, 98] = (d1, 0)) ∧ d1.writes.length ≤ 10 ∧ Hid (appendD d1 5 (zeros 56) = (d2, 0)) ∧ Hid (appendD noDisk 399 (zeros 56) = (d3, 2)) ∧ Hid (appendD noDisk 400 [] = (d4, 1)) ∧ Hid (crashD d2 1 0 = c) ∧ Hid (restartD c = e)
    ∧ Hid (recordsD d2 5 = [[97, 98], zeros 56]) ∧ Hid (endD d2 5 = 8) ∧ Hid (recordsD d2 4 = []) ∧ Hid (endD d2 4 = 4) ∧ Hid (endD d2 (-1) = -1) ∧ Hid (recordsD e 5 = []) ∧ Hid (sumN [] = 2166136261) ∧ Hid (sumN [97] = 3826002220) := by
  refine ⟨(appendD noDisk 5 [97, 98]).1, (appendD (appendD noDisk 5 [97, 98]).1 5 (zeros 56)).1, (appendD noDisk 399 (zeros 56)).1, (appendD noDisk 400 []).1, _, _, Lib.hid (Prod.ext rfl (by decide +kernel)), by decide +kernel, Lib.hid (Prod.ext rfl (by decide +kernel)), Lib.hid (Prod.ext rfl (by decide +kernel)), Lib.hid (Prod.ext rfl (by decide +kernel)), Lib.hid rfl, Lib.hid rfl,
    Lib.hid (by decide +kernel), Lib.hid (by decide +kernel), Lib.hid (by decide +kernel), Lib.hid (by decide +kernel), Lib.hid (by decide +kernel), Lib.hid (by decide +kernel), Lib.hid (by decide +kernel), Lib.hid (by decide +kernel)⟩
end Go.Proofs.Ytcembocnkndlhaa
/- A region that draws its order: three operations that may come up; contracts of logs as arms. -/
namespace Go.Proofs.Ytcembocnkndlhaa
open Go.RowKit
theorem made_zeros (n : Nat) : madeCells #[Value.int .u8 0] n = (bytesV (zeros n)).toArray := by
  unfold bytesV zeros madeCells
  rw [List.map_replicate]
  apply Array.ext
  · simp
  · intro i h1 h2
    simp [Nat.mod_one]
theorem run_makeN (n : Nat) (hn : n ≤ 1000) (w : World) : (Instr.makeSlice 26 (.int .i64 n) (.int .i64 n)).run Try.prog w = .ok (.slice (some ⟨w.heap.size, 0, none⟩) n n) (w.alloc (.cells (bytesV (zeros n)).toArray 5)) := by
  have h := run_make_row' (P := Try.prog) 26 5 (.int .u8 0) 1 Try.underlying26 info5 rfl .i64 .i64 n (by omega) (by omega) w
  rw [← made_zeros]
  exact h
theorem lit_marked (w : World) (l : List UInt8) (fr : Nat × Nat) (hl : l.length ≤ 1000) : IsBytes (w.alloc (.cells (bytesV l).toArray 5 fr)) (.slice (some ⟨w.heap.size, 0, none⟩) l.length l.length) l := by
  refine ⟨_, _, rfl, .inr ⟨_, _, rfl, fun i x hx j u hu => ?_⟩, by omega, Nat.le_refl _, by omega⟩
  have hj : j = 0 := by
    rcases j with _ | j
    · rfl
    · simp [encB] at hu
  subst hj
  obtain rfl : Value.int .u8 x.toNat = u := by simpa [encB] using hu
  rw [World.cell?_alloc_mark]
  unfold bytesV
  simp [hx]
theorem bcell {W w1 : World} (hb : Below W.heap.size W w1) : (∀ b o, b < W.heap.size → w1.cell? ⟨b, o, none⟩ = W.cell? ⟨b, o, none⟩) ∧ (∀ b o, b < W.heap.size → w1.frozen? ⟨b, o, none⟩ = W.frozen? ⟨b, o, none⟩) :=
  ⟨fun b o h => hb.cell (p := ⟨b, o, none⟩) h, fun b o h => hb.frozen (p := ⟨b, o, none⟩) h⟩
theorem new_ts {w : World} {Q : Ending → World → Prop} (q : ∀ pa pc wa wc w', IsDisk w' (.agg #[.slice pa noDisk.pages.length pc, .slice wa noDisk.writes.length wc, .bool noDisk.down]) noDisk → Below w.heap.size w w' → Q (.returned (.agg #[.slice pa noDisk.pages.length pc, .slice wa noDisk.writes.length wc, .bool noDisk.down])) w') : Calls Try.prog 31 #[] w Q :=
  (New_any w).mono fun e w' hres => by
    obtain ⟨pa, pc, wa, wc, rfl, hD, hB⟩ := hres.to (Lib.hid rfl)
    exact q pa pc wa wc w' hD hB
theorem append_ts {v bv : Value} {d d' : Dk} {k r : Int} {l : List UInt8} {w : World} {Q : Ending → World → Prop} (h : IsDisk w v d) (hb : IsBytes w bv l) (hr : Hid (appendD d k l = (d', r))) (hl : l.length ≤ 1000000) (hw : d.writes.length ≤ 1000000) (q : ∀ pa pc wa wc w', IsDisk w' (.agg #[.slice pa d'.pages.length pc, .slice wa d'.writes.length wc, .bool d'.down]) d' → Below w.heap.size w w' → Q (.returned (.tuple #[.agg #[.slice pa d'.pages.length pc, .slice wa d'.writes.length wc, .bool d'.down], .int .i64 r])) w') : Calls Try.prog 43 #[v, .int .i64 k, bv] w Q :=
  (Append_any v d k bv l w h hb hl hw).mono fun e w' hres => by
    obtain ⟨pa, pc, wa, wc, rfl, hD, hB⟩ := hres.to hr
    exact q pa pc wa wc w' hD hB
theorem z56 (w : World) : IsBytes (w.alloc (.cells (bytesV (zeros 56)).toArray 5)) (.slice (some ⟨w.heap.size, 0, none⟩) 56 56) (zeros 56) := lit_marked w (zeros 56) (0, 0) (by decide)
theorem z56k {w w' : World} {g : Nat} (hb : Below (w.alloc (.cells (bytesV (zeros 56)).toArray 5)).heap.size (w.alloc (.cells (bytesV (zeros 56)).toArray 5)) w') (hg : g = w.heap.size) : IsBytes w' (.slice (some ⟨g, 0, none⟩) 56 56) (zeros 56) := by
  subst hg; exact (z56 w).keep hb
theorem any_three {P : Program} {ops : Array Oper} {Q : Exit → Act → World → Prop} {md : Region.Mode} {S : World → Prop} {n : Nat} {i j k : Nat} {oi oj ok : Oper} {f : Nat} {done : Array Bool} {a : Act} {w : World} (hr : Region.ready md ops done = [i, j, k]) (hi : ops[i]? = some oi) (hj : ops[j]? = some oj) (hk : ops[k]? = some ok) (hin : decide (i < n) = true) (hjn : decide (j < n) = true) (hkn : decide (k < n) = true)
    (h1 : ∀ K : Act → World → Prop, Shut (∀ a w, S w → (S w → AnyT P md ops Q S n f (done.setIfInBounds i true) a w) → K a w) → if Region.wanted oi (yielded ops a.tmps) = true then Oper.wp P oi a w K Q else K (a.put oi.dst undef) w)
    (h2 : ∀ K : Act → World → Prop, Shut (∀ a w, S w → (S w → AnyT P md ops Q S n f (done.setIfInBounds j true) a w) → K a w) → if Region.wanted oj (yielded ops a.tmps) = true then Oper.wp P oj a w K Q else K (a.put oj.dst undef) w)
    (h3 : ∀ K : Act → World → Prop, Shut (∀ a w, S w → (S w → AnyT P md ops Q S n f (done.setIfInBounds k true) a w) → K a w) → if Region.wanted ok (yielded ops a.tmps) = true then Oper.wp P ok a w K Q else K (a.put ok.dst undef) w) : AnyT P md ops Q S n (f + 1) done a w := by
  refine ⟨fun h0 => (by rw [hr] at h0; cases h0), fun t ht => ?_⟩
  rw [hr] at ht
  rcases List.mem_cons.1 ht with rfl | ht
  · exact wpOp_step hi fun K hK => h1 K fun a' w' hS hx => hK a' w' ⟨fun _ => hS, hx hS⟩
  · rcases List.mem_cons.1 ht with rfl | ht
    · exact wpOp_step hj fun K hK => h2 K fun a' w' hS hx => hK a' w' ⟨fun _ => hS, hx hS⟩
    · obtain rfl := List.mem_singleton.1 ht
      exact wpOp_step hk fun K hK => h3 K fun a' w' hS hx => hK a' w' ⟨fun _ => hS, hx hS⟩
theorem below_set' {a w : World} {p : Addr} {v : Value} (h : Below a.heap.size a w) (hp : a.heap.size ≤ p.block) : Below a.heap.size a (w.setCell p v) := h.setCell hp v
theorem records_ts {v : Value} {d : Dk} {k : Int} {L : List (List UInt8)} {w : World} {Q : Ending → World → Prop} (h : IsDisk w v d) (hr : Hid (recordsD d k = L)) (q : ∀ a c w', IsPages w' (.slice a L.length c) L → Below w.heap.size w w' → Q (.returned (.slice a L.length c)) w') : Calls Try.prog 41 #[v, .int .i64 k] w Q :=
  (Records_any v d k w h).mono fun e w' ⟨u, he, hT, hB⟩ => by
    subst he
    rw [hr.out] at hT
    obtain ⟨a, c, rfl, -⟩ := pages_form hT
    exact q a c w' hT hB
theorem end_ts {v : Value} {d : Dk} {k r : Int} {w : World} {Q : Ending → World → Prop} (h : IsDisk w v d) (hr : Hid (endD d k = r)) (q : ∀ w', Below w.heap.size w w' → Q (.returned (.int .i64 r)) w') : Calls Try.prog 42 #[v, .int .i64 k] w Q :=
  (End_any v d k w h).mono fun e w' ⟨he, hB⟩ => by
    subst he
    rw [hr.out]
    exact q w' hB
theorem sum_ts {v : Value} {l : List UInt8} {s : Int} {w : World} {Q : Ending → World → Prop} (h : IsBytes w v l) (hs : Hid ((sumN l : Int) = s)) (q : Q (.returned (.int .u32 s)) w) : Calls Try.prog 46 #[v] w Q :=
  (Sum_any v l w h).mono fun e w' ⟨he, hw⟩ => by
    subst he hw
    rw [hs.out]
    exact q
theorem pagesI_ts {v : Value} {l : List UInt8} {s : Int} {w : World} {Q : Ending → World → Prop} (h : IsBytes w v l) (hl : l.length ≤ 1000000) (hs : Hid ((pagesN l.length : Int) = s)) (q : Q (.returned (.int .i64 s)) w) : Calls Try.prog 44 #[v] w Q :=
  (Pages_any v l w h (by omega)).mono fun e w' ⟨he, hw⟩ => by
    subst he hw
    rw [hs.out]
    exact q
theorem rsame_ts {va vb : Value} {ps qs : List (List UInt8)} {w : World} {Q : Ending → World → Prop} (ha : IsPages w va ps) (hb : IsPages w vb qs) (h : Hid (ps = qs)) (q : ∀ w', Below w.heap.size w w' → Q (.returned (.bool true)) w') : Calls Try.prog 45 #[va, vb] w Q :=
  (rSame_any va vb ps qs w ha hb).mono fun e w' ⟨he, hB⟩ => by
    subst he
    rw [decide_eq_true h.out]
    exact q w' hB
theorem zN (n : Nat) (hn : n ≤ 1000) (w : World) : IsBytes (w.alloc (.cells (bytesV (zeros n)).toArray 5)) (.slice (some ⟨w.heap.size, 0, none⟩) n n) (zeros n) := by
  have hl : (zeros n).length = n := by simp [zeros]
  have := lit_marked w (zeros n) (0, 0) (by omega)
  rwa [hl] at this
theorem lit_pages (w : World) (vs : List Value) (L : List (List UInt8)) (hl : vs.length = L.length) (hm : L.length ≤ 1000) (h : ∀ (i : Nat) (u : Value) (l : List UInt8), vs[i]? = some u → L[i]? = some l → IsBytes w u l) : IsPages (w.alloc (.cells vs.toArray 26)) (.slice (some ⟨w.heap.size, 0, none⟩) vs.length vs.length) L := by
  refine ⟨vs, ⟨_, _, rfl, .inr ⟨_, _, rfl, fun i x hx j u hu => ?_⟩, by omega, Nat.le_refl _, by omega⟩, hl, fun i u l hu hl => (h i u l hu hl).keep (below_new w _)⟩
  have hj : j = 0 := by
    rcases j with _ | j
    · rfl
    · simp [encV] at hu
  subst hj
  obtain rfl : x = u := by simpa [encV] using hu
  refine cell_at (heap_alloc_new w _) ?_
  simpa using hx
theorem lit_two (w : World) : IsPages (((w.alloc (.cells #[.int .u8 97, .int .u8 98] 5 (2, 3))).alloc (.cells (bytesV (zeros 56)).toArray 5)).alloc (.cells #[.slice (some ⟨w.heap.size, 0, none⟩) 2 2, .slice (some ⟨w.heap.size + 1, 0, none⟩) 56 56] 26)) (.slice (some ⟨w.heap.size + 2, 0, none⟩) 2 2) [[97, 98], zeros 56]
    ∧ Below w.heap.size w (((w.alloc (.cells #[.int .u8 97, .int .u8 98] 5 (2, 3))).alloc (.cells (bytesV (zeros 56)).toArray 5)).alloc (.cells #[.slice (some ⟨w.heap.size, 0, none⟩) 2 2, .slice (some ⟨w.heap.size + 1, 0, none⟩) 56 56] 26)) := by
  obtain ⟨w1, h1⟩ : ∃ x : World, x = w.alloc (.cells #[.int .u8 97, .int .u8 98] 5 (2, 3)) := ⟨_, rfl⟩
  have t1 : IsBytes (w.alloc (.cells #[.int .u8 97, .int .u8 98] 5 (2, 3))) (.slice (some ⟨w.heap.size, 0, none⟩) 2 2) [97, 98] := lit_marked w [97, 98] (2, 3) (by decide)
  have b1 := below_new w (.cells #[.int .u8 97, .int .u8 98] 5 (2, 3))
  have s1 : (w.alloc (.cells #[.int .u8 97, .int .u8 98] 5 (2, 3))).heap.size = w.heap.size + 1 := by simp
  rw [← h1] at t1 b1 s1
  rw [← h1]
  clear h1
  have t2 := z56 w1
  have b2 := below_new w1 (.cells (bytesV (zeros 56)).toArray 5)
  have s2 : (w1.alloc (.cells (bytesV (zeros 56)).toArray 5)).heap.size = w1.heap.size + 1 := by simp
  obtain ⟨w2, h2⟩ : ∃ x : World, x = w1.alloc (.cells (bytesV (zeros 56)).toArray 5) := ⟨_, rfl⟩
  rw [← h2] at t2 b2 s2
  rw [← h2]
  clear h2
  rw [s1] at s2 t2
  have t3 := lit_pages w2 [.slice (some ⟨w.heap.size, 0, none⟩) 2 2, .slice (some ⟨w.heap.size + 1, 0, none⟩) 56 56] [[97, 98], zeros 56] rfl (by decide) (by
    intro i u l hu hl
    rcases i with _ | _ | i
    · simp at hu hl; subst hu hl; exact t1.keep b2
    · simp at hu hl; subst hu hl; exact t2
    · simp at hu)
  rw [s2] at t3
  exact ⟨t3, below_trans b1 (below_trans b2 (below_new w2 _))⟩
theorem any_merge {P : Program} {ops : Array Oper} {Q : Exit → Act → World → Prop} {md : Region.Mode} {S : World → Prop} {n f0 : Nat} {d0 : Array Bool} {a0 : Act} {w0 : World} (G : Nat → Array Bool → Act → World → Prop) (h1 : ∀ f d a w, G f d a w → AnyT P md ops Q S n f d a w) (h2 : (∀ f d a w, G f d a w → AnyT P md ops Q S n f d a w) → AnyT P md ops Q S n f0 d0 a0 w0) : AnyT P md ops Q S n f0 d0 a0 w0 := h2 h1
theorem records_tu {v : Value} {d : Dk} {k : Int} {L : List (List UInt8)} {w : World} {Q : Ending → World → Prop} (h : IsDisk w v d) (hr : Hid (recordsD d k = L)) (q : ∀ u w', IsPages w' u L → Below w.heap.size w w' → Q (.returned u) w') : Calls Try.prog 41 #[v, .int .i64 k] w Q :=
  (Records_any v d k w h).mono fun e w' ⟨u, he, hT, hB⟩ => by
    subst he
    rw [hr.out] at hT
    exact q u w' hT hB
theorem records_t0 {v : Value} {d : Dk} {k : Int} {w : World} {Q : Ending → World → Prop} (h : IsDisk w v d) (hr : Hid (recordsD d k = [])) (q : ∀ a c w', Below w.heap.size w w' → Q (.returned (.slice a 0 c)) w') : Calls Try.prog 41 #[v, .int .i64 k] w Q :=
  records_ts h hr fun a c w' _ hB => q a c w' hB
theorem freeze_keeps (W : World) (p : Addr) (n : Nat) : Keeps W (W.freeze p n) := by
  intro q v h
  by_cases hn : n = 0
  · unfold World.freeze; rw [if_pos hn]; exact h
  · have hlt := cell_lt h
    unfold World.freeze
    rw [if_neg hn]
    unfold World.cell? at h ⊢
    dsimp only
    rw [Array.getElem?_modify]
    by_cases e : p.block = q.block
    · rw [if_pos e]
      cases hW : W.heap[q.block]? with
      | none => rw [hW] at h; cases h
      | some o =>
        rw [hW] at h
        cases o with
        | cells c e fz => cases fz; exact h
        | _ => exact h
    · rw [if_neg e]; exact h
theorem run_convert_mark (W : World) (g : Nat) (C : Array Value) (n c : Nat) (hg : W.heap[g]? = some (.cells C 5)) : ∃ k, (convert 26 26 (.slice (some ⟨g, 0, none⟩) n c)).run Try.prog W = .ok (.slice (some ⟨g, 0, none⟩) n c) (W.freeze ⟨g, k, none⟩ 1) := by
  have hsh : W.shape? g = some (5, C.size) := by
    unfold World.shape?
    rw [hg]
  refine ⟨C.size, ?_⟩
  simp [convert, run_underlying Try.underlying26, run_underlying Try.underlying5, markStringish, hsh]
theorem below_mark {B : Nat} {a w : World} (h : Below B a w) {g k : Nat} (hp : B ≤ g) : Below B a (w.freeze ⟨g, k, none⟩ 1) := Lib.below_freeze h hp 1
theorem box_bytes {w : World} {g : Nat} {l : List UInt8} (h : w.heap[g]? = some (.cells (bytesV l).toArray 5)) (hl : l.length ≤ 1000000) : IsBytes w (.slice (some ⟨g, 0, none⟩) l.length l.length) l := by
  refine ⟨_, _, rfl, .inr ⟨_, _, rfl, fun i x hx j u hu => ?_⟩, by omega, Nat.le_refl _, by omega⟩
  have hj : j = 0 := by
    rcases j with _ | j
    · rfl
    · simp [encB] at hu
  subst hj
  obtain rfl : Value.int .u8 x.toNat = u := by simpa [encB] using hu
  refine cell_at h ?_
  simp [bytesV, hx]
end Go.Proofs.Ytcembocnkndlhaa
