/- The walk of the library's insertion sort and of swapRange. -/
import Derived.Test.YtdibijhaiaiifaaDoorSa
import Derived.BigRegion
namespace Go.Proofs.YtdibijhaiaiifaaDoor
open Go.RowKit
open Go.Sort
theorem byArgs_after {W : World} {x y : RR} (hx : RowOk W x) (hy : RowOk W y) (p : After W) : Calls Tryd.prog 73 #[rowV x, rowV y] p.w' fun e w'' => e = .returned (.int .i64 (cmpT x.t y.t)) ∧ ∃ q : After W, w'' = q.w' :=
  After.call (byArgs_any x y p.w' (hx.keep p.ok.below).1 (hy.keep p.ok.below).1)
set_option maxHeartbeats 4000000 in
set_option maxRecDepth 1000000 in
theorem insertion_any (wb : World) (G c a b : Nat) (d : Array RR) (w : World) (S : St wb G d w) (hab : a ≤ b) (hb : b ≤ d.size) (hsz : d.size ≤ 1000000) :
    Calls Tryd.prog 152 #[.slice (some ⟨G, 0, none⟩) d.size c, .int .i64 a, .int .i64 b, .func (.func 73) #[] #[]] w fun e w' => e = .returned (.tuple #[]) ∧ St wb G (Go.Sort.insertionSort ltR d a b) w' := by
  go_enter Tryd.func152, Tryd.ntmps152
  go_wp2
  go_loopg [8] (b - a) (fun g1 vi wr => ∃ (i : Nat) (dk : Array RR), vi = .int .i64 i ∧ a < i ∧ i ≤ b + 1 ∧ b + 1 - i ≤ g1 + 1 ∧ dk.size = d.size ∧ St wb G dk wr ∧ Hid (insOuter ltR a b i dk = insOuter ltR a b (a + 1) d))
  case atStart => exact ⟨a + 1, d, by go_num, by omega, by omega, by omega, rfl, S, rfl⟩
  case round =>
    clear S
    obtain ⟨i, dk, rfl, hai, hib, hg1, hsk, S, HO⟩ := hrel
    by_cases hlt : i < b
    · have hltz : (i : Int) < (b : Int) := by omega
      go_wp2
      go_loopg [9] i (fun g2 vj wr2 => ∃ (j : Nat) (dj : Array RR), vj = .int .i64 j ∧ a ≤ j ∧ j ≤ i ∧ j ≤ g2 ∧ dj.size = d.size ∧ St wb G dj wr2 ∧ Hid (insInner ltR a j dj = insInner ltR a i dk))
      case atStart => exact ⟨i, dk, rfl, by omega, Nat.le_refl _, Nat.le_refl _, hsk, S, rfl⟩
      case round =>
        clear S
        obtain ⟨j, dj, rfl, haj, hji, hg2, hsj, S, HI⟩ := hrel
        have OUT := Lib.hid (fun hs : j ≤ a ∨ ltR dj[j]! dj[j - 1]! = false => show insOuter ltR a b (i + 1) dj = insOuter ltR a b (a + 1) d from by
          rw [← HO.out, insOuter_go _ _ _ _ _ hlt, ← HI.out, insInner_stop _ _ _ _ hs])
        by_cases hja : a < j
        · obtain ⟨jp, hjp⟩ : ∃ jp, j = jp + 1 := ⟨j - 1, by omega⟩
          have hjd : j < dj.size := by omega
          have hpd : jp < dj.size := by omega
          obtain ⟨a0, a1⟩ := S.cells hjd
          obtain ⟨b0, b1⟩ := S.cells hpd
          have rx := S.row hjd
          have ry := S.row hpd
          have S2 := Lib.hid (fun W (hS : St wb G dj W) => hS.swap (i := j) (j := jp) hjd hpd)
          have INN := Lib.hid (fun h : ltR dj[j]! dj[jp]! = true => insInner_go ltR a j dj hja (by rw [hjp] at h ⊢; simpa using h))
          rw [show j - 1 = jp by omega] at OUT INN
          generalize hxj : dj[j]! = x at *
          generalize hxp : dj[jp]! = y at *
          have hja' : (a : Int) < (j : Int) := by omega
          have jz : (j : Int) < (d.size : Int) := by omega
          have jz1 : (j : Int) - 1 < (d.size : Int) := by omega
          have jz2 : (1 : Int) ≤ (j : Int) := by omega
          have jz3 : ((j : Int) - 1).toNat = jp := by omega
          have jw : IntKind.i64.wrap ((j : Int) - 1) = (j : Int) - 1 := by rw [IntKind.wrap_i64]; omega
          replace a0 := After.cell a0
          replace a1 := After.cell a1
          replace b0 := After.cell b0
          replace b1 := After.cell b1
          obtain ⟨r, hr⟩ : ∃ r, cmpT x.t y.t = r := ⟨_, rfl⟩
          have HJP := Lib.hid hjp
          clear hjp
          go_upto_region 4 with fail
          refine wp_region_after (by kernel_rfl) (by kernel_rfl) ?_
          repeat (quiet_step ((go_at_call 73; exact byArgs_after rx ry _)))
          refine wpQuiet_nil ?_
          intro w2 hg2
          replace S := S.grew hg2
          clear a0 a1 b0 b1
          by_cases hlv : r < 0
          · have HN := Lib.hid (INN.out (by unfold ltR; rw [hr]; exact decide_eq_true hlv))
            obtain ⟨a0, a1⟩ := S.cells hjd
            obtain ⟨b0, b1⟩ := S.cells hpd
            rw [hxj] at a0 a1
            rw [hxp] at b0 b1
            have f0 := S.free (j * 2)
            have f1 := S.free (j * 2 + 1)
            have f2 := S.free (jp * 2)
            have f3 := S.free (jp * 2 + 1)
            have S3 := Lib.hid (S2.out _ S)
            go_upto_region 6 with fail
            go_region
            replace S3 := S3.out.grew (Grew.refl _).drew
            clear a0 a1 b0 b1 f0 f1 f2 f3 S
            generalize World.drew _ = w3 at S3 ⊢
            go_wp2
            go_roundg jp
            case measure => have := HJP.out; omega
            case rel => exact ⟨jp, swp dj j jp, by go_num, by have := HJP.out; omega, by have := HJP.out; omega, Nat.le_refl _, by rw [size_swp]; exact hsj, S3, Lib.hid (by rw [← HI.out, HN.out])⟩
          · have HN := Lib.hid (OUT.out (.inr (by unfold ltR; rw [hr]; exact decide_eq_false hlv)))
            go_wp2
            go_roundg (b - (i + 1))
            case measure => omega
            case rel => exact ⟨i + 1, dj, by go_num, by omega, by omega, by omega, hsj, S, HN⟩
        · have HN := Lib.hid (OUT.out (.inl (by omega)))
          have hjz : decide ((j : Int) > (a : Int)) = false := decide_eq_false (by omega)
          have hjz' : ¬ (a : Int) < (j : Int) := by omega
          go_upto_region 4 with fail
          go_region
          replace S := S.grew (Grew.refl _).drew
          go_wp2
          go_roundg (b - (i + 1))
          case measure => omega
          case rel => exact ⟨i + 1, dj, by go_num, by omega, by omega, by omega, hsj, S, HN⟩
    · have hltz : ¬ (i : Int) < (b : Int) := by omega
      go_wp2
      go_end0
      exact ⟨rfl, by unfold Go.Sort.insertionSort; rw [← HO.out, insOuter_stop _ _ _ _ _ hlt]; exact S⟩
end Go.Proofs.YtdibijhaiaiifaaDoor
