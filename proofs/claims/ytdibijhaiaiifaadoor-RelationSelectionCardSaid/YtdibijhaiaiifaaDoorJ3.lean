/- Parts Sf, Sg, Hold, Can, Cb, Box, Cmb, Pa: words, walks and laws that the claims of this seat share. -/
import Derived.Test.YtdibijhaiaiifaaDoorJ2
import Derived.Sort.LoopGhostIn
import Derived.Sort.CutIn
/- The walk of the library's symMerge. -/
namespace Go.Proofs.YtdibijhaiaiifaaDoor
open Go.RowKit
open Go.Sort
set_option maxHeartbeats 4000000 in
set_option maxRecDepth 1000000 in
theorem symMerge_any (wb : World) (G c sz : Nat) (hsz : sz ≤ 1000000) : ∀ (N a m b : Nat) (d : Array RR) (w : World), b - a ≤ N → St wb G d w → d.size = sz → a < m → m < b → b ≤ sz → Hid (SortedIn ltR a m d) → Hid (SortedIn ltR m b d) →
    Calls Tryd.prog 153 #[.slice (some ⟨G, 0, none⟩) sz c, .int .i64 a, .int .i64 m, .int .i64 b, .func (.func 73) #[] #[]] w fun e w' => e = .returned (.tuple #[]) ∧ ∃ d', St wb G d' w' ∧ PermIn a b d d' ∧ SortedIn ltR a b d' := by
  intro N
  induction N with
  | zero => intro a m b d w h1 _ _ h2 h3; omega
  | succ N ih =>
    intro a m b d w hN S hd ham hmb hb H1 H2
    by_cases c1 : m = a + 1
    · have e1 : ((m : Int) - (a : Int) == 1) = true := by rw [beq_iff_eq]; omega
      have HMA := Lib.hid c1
      have HM : Hid (∀ x y, m ≤ x → x ≤ y → y < b → (!ltR d[x]! d[a]!) = true → (!ltR d[y]! d[a]!) = true) := Lib.hid fun x y k1 k2 k3 k4 => by
        have := swoR.ntrans _ _ _ (SortedIn.le H2.out k1 k2 k3) (by simpa using k4)
        simpa using this
      clear ih hN c1 H1
      go_enter Tryd.func153, Tryd.ntmps153
      go_wp2
      go_loopg [10, 11] (b - m) (fun g vi vj wr => ∃ (i j : Nat), vi = .int .i64 i ∧ vj = .int .i64 j ∧ j - i ≤ g ∧ m ≤ i ∧ i ≤ j ∧ j ≤ b ∧ Hid (Srch (fun x => !ltR d[x]! d[a]!) m b i j) ∧ St wb G d wr)
      case atStart => exact ⟨m, b, rfl, rfl, Nat.le_refl _, Nat.le_refl _, by omega, Nat.le_refl _, Lib.hid (Srch.start _ (by omega)), S⟩
      case round =>
        clear S
        obtain ⟨i, j, rfl, rfl, hg, hmi, hij, hjb, F, S⟩ := hrel
        by_cases hlt : i < j
        · have hltz : (i : Int) < (j : Int) := by omega
          obtain ⟨h, hh⟩ : ∃ h, h = (i + j) / 2 := ⟨_, rfl⟩
          have hs : ((i : Int) + (j : Int)) / 2 = (h : Int) := by omega
          have ih1 : i ≤ h := by omega
          have ih2 : h < j := by omega
          have HH := Lib.hid hh
          clear hh
          have hd1 : h < d.size := by omega
          have hd2 : a < d.size := by omega
          obtain ⟨a0, a1⟩ := S.cells hd1
          obtain ⟨b0, b1⟩ := S.cells hd2
          have rx := S.row hd1
          have ry := S.row hd2
          have FU := Lib.hid (fun q : (!ltR d[h]! d[a]!) = false => F.out.up HM.out ih1 ih2 q)
          have FD := Lib.hid (fun q : (!ltR d[h]! d[a]!) = true => F.out.down HM.out ih1 ih2 q)
          generalize hx : d[h]! = x at *
          generalize hy : d[a]! = y at *
          replace a0 := After.cell a0
          replace a1 := After.cell a1
          replace b0 := After.cell b0
          replace b1 := After.cell b1
          obtain ⟨r, hr⟩ : ∃ r, cmpT x.t y.t = r := ⟨_, rfl⟩
          have hz : (h : Int) < (sz : Int) := by omega
          have az : (a : Int) < (sz : Int) := by omega
          have HX := Lib.hid hx
          have HY := Lib.hid hy
          clear hx hy
          go_upto_region 5 with fail
          refine wp_region_after (by kernel_rfl) (by kernel_rfl) ?_
          repeat (quiet_step ((go_at_call 73; exact byArgs_after rx ry _)))
          refine wpQuiet_nil ?_
          intro w2 hg2
          replace S := S.grew hg2
          clear a0 a1 b0 b1
          by_cases hlv : r < 0
          · have HN := Lib.hid (FU.out (by unfold ltR; rw [hr, decide_eq_true hlv]; rfl))
            go_wp2
            go_roundg (j - (h + 1))
            case measure => omega
            case rel => exact ⟨h + 1, j, by go_num, rfl, Nat.le_refl _, by omega, by omega, hjb, HN, S⟩
          · have HN := Lib.hid (FD.out (by unfold ltR; rw [hr, decide_eq_false hlv]; rfl))
            go_wp2
            go_roundg (h - i)
            case measure => omega
            case rel => exact ⟨i, h, rfl, rfl, Nat.le_refl _, hmi, ih1, by omega, HN, S⟩
        · have hltz : ¬ (i : Int) < (j : Int) := by omega
          have eij : j = i := by omega
          subst eij
          clear hg hij hlt
          go_wp2
          go_loopg [13] (j - 1 - a) (fun g vk wr => ∃ (k : Nat) (dk : Array RR), vk = .int .i64 k ∧ j - 1 - k ≤ g ∧ a ≤ k ∧ k ≤ j - 1 ∧ dk.size = sz ∧ Hid (Up1 a b k d dk) ∧ St wb G dk wr)
          case atStart => exact ⟨a, d, rfl, Nat.le_refl _, Nat.le_refl _, by omega, hd, Lib.hid (Up1.start a b d), S⟩
          case round =>
            clear S
            obtain ⟨k, dk, rfl, hg, hak, hki, hdk, U, S⟩ := hrel
            by_cases hlt : k < j - 1
            · have hltz : (k : Int) < (j : Int) - 1 := by omega
              have h1d : k < dk.size := by omega
              have h2d : k + 1 < dk.size := by omega
              obtain ⟨a0, a1⟩ := S.cells h1d
              obtain ⟨b0, b1⟩ := S.cells h2d
              have S3 := Lib.hid (S.swap (i := k) (j := k + 1) h1d h2d)
              have UN := Lib.hid (U.out.step hak (by omega) (by omega))
              have f0 := S.free (k * 2)
              have f1 := S.free (k * 2 + 1)
              have f2 := S.free ((k + 1) * 2)
              have f3 := S.free ((k + 1) * 2 + 1)
              generalize dk[k]! = x at *
              generalize dk[k + 1]! = y at *
              have kz : (k : Int) < (sz : Int) := by omega
              have kz1 : (k : Int) + 1 < (sz : Int) := by omega
              have kz2 : ((k : Int) + 1).toNat = k + 1 := by omega
              go_upto_region 11 with fail
              go_region
              replace S3 := S3.out.grew (Grew.refl _).drew
              clear a0 a1 b0 b1 f0 f1 f2 f3 S
              generalize World.drew _ = w3 at S3 ⊢
              go_wp2
              go_roundg (j - 1 - (k + 1))
              case measure => omega
              case rel => exact ⟨k + 1, _, by go_num, Nat.le_refl _, by omega, by omega, by rw [size_swp]; exact hdk, UN, S3⟩
            · have hltz : ¬ (k : Int) < (j : Int) - 1 := by omega
              have ek : k = j - 1 := by omega
              subst ek
              have HS := Lib.hid (merged1 (by have := H2.out; rw [HMA.out] at this; exact this) (by rw [← HMA.out]; exact F.out) U.out)
              go_wp2
              refine bodyPost_ret (results_none (by kernel_rfl) _ _ _) rfl ?_
              exact ⟨rfl, dk, S, U.out.perm, HS.out⟩
    · by_cases c2 : b = m + 1
      · have e0 : ((m : Int) - (a : Int) == 1) = false := by rw [beq_eq_false_iff_ne]; omega
        have e1 : ((b : Int) - (m : Int) == 1) = true := by rw [beq_iff_eq]; omega
        have HM : Hid (∀ x y, a ≤ x → x ≤ y → y < m → ltR d[m]! d[x]! = true → ltR d[m]! d[y]! = true) := Lib.hid fun x y k1 k2 k3 k4 => lt_le k4 (SortedIn.le H1.out k1 k2 k3)
        have HMA := Lib.hid c2
        clear ih hN c1 c2 H2
        go_enter Tryd.func153, Tryd.ntmps153
        go_wp2
        go_loopg [14, 15] (m - a) (fun g vi vj wr => ∃ (i j : Nat), vi = .int .i64 i ∧ vj = .int .i64 j ∧ j - i ≤ g ∧ a ≤ i ∧ i ≤ j ∧ j ≤ m ∧ Hid (Srch (fun x => ltR d[m]! d[x]!) a m i j) ∧ St wb G d wr)
        case atStart => exact ⟨a, m, rfl, rfl, Nat.le_refl _, Nat.le_refl _, by omega, Nat.le_refl _, Lib.hid (Srch.start _ (by omega)), S⟩
        case round =>
          clear S
          obtain ⟨i, j, rfl, rfl, hg, hmi, hij, hjb, F, S⟩ := hrel
          by_cases hlt : i < j
          · have hltz : (i : Int) < (j : Int) := by omega
            obtain ⟨h, hh⟩ : ∃ h, h = (i + j) / 2 := ⟨_, rfl⟩
            have hs : ((i : Int) + (j : Int)) / 2 = (h : Int) := by omega
            have ih1 : i ≤ h := by omega
            have ih2 : h < j := by omega
            have HH := Lib.hid hh
            clear hh
            have hd1 : m < d.size := by omega
            have hd2 : h < d.size := by omega
            obtain ⟨a0, a1⟩ := S.cells hd1
            obtain ⟨b0, b1⟩ := S.cells hd2
            have rx := S.row hd1
            have ry := S.row hd2
            have FU := Lib.hid (fun q : ltR d[m]! d[h]! = false => F.out.up HM.out ih1 ih2 q)
            have FD := Lib.hid (fun q : ltR d[m]! d[h]! = true => F.out.down HM.out ih1 ih2 q)
            generalize hx : d[m]! = x at *
            generalize hy : d[h]! = y at *
            replace a0 := After.cell a0
            replace a1 := After.cell a1
            replace b0 := After.cell b0
            replace b1 := After.cell b1
            obtain ⟨r, hr⟩ : ∃ r, cmpT x.t y.t = r := ⟨_, rfl⟩
            have hz : (h : Int) < (sz : Int) := by omega
            have az : (m : Int) < (sz : Int) := by omega
            have HX := Lib.hid hx
            have HY := Lib.hid hy
            clear hx hy
            go_upto_region 17 with fail
            refine wp_region_after (by kernel_rfl) (by kernel_rfl) ?_
            repeat (quiet_step ((go_at_call 73; exact byArgs_after rx ry _)))
            refine wpQuiet_nil ?_
            intro w2 hg2
            replace S := S.grew hg2
            clear a0 a1 b0 b1
            by_cases hlv : r < 0
            · have HN := Lib.hid (FD.out (by unfold ltR; rw [hr, decide_eq_true hlv]))
              rw [decide_eq_true hlv]
              go_wp2
              go_roundg (h - i)
              case measure => omega
              case rel => exact ⟨i, h, rfl, rfl, Nat.le_refl _, hmi, ih1, by omega, HN, S⟩
            · have HN := Lib.hid (FU.out (by unfold ltR; rw [hr, decide_eq_false hlv]))
              rw [decide_eq_false hlv]
              go_wp2
              go_roundg (j - (h + 1))
              case measure => omega
              case rel => exact ⟨h + 1, j, by go_num, rfl, Nat.le_refl _, by omega, by omega, hjb, HN, S⟩
          · have hltz : ¬ (i : Int) < (j : Int) := by omega
            have eij : j = i := by omega
            subst eij
            clear hg hij hlt
            go_wp2
            go_loopg [17] (m - j) (fun g vk wr => ∃ (k : Nat) (dk : Array RR), vk = .int .i64 k ∧ k - j ≤ g ∧ j ≤ k ∧ k ≤ m ∧ dk.size = sz ∧ Hid (Dn1 a m k d dk) ∧ St wb G dk wr)
            case atStart => exact ⟨m, d, rfl, Nat.le_refl _, hjb, Nat.le_refl _, hd, Lib.hid (Dn1.start a m d), S⟩
            case round =>
              clear S
              obtain ⟨k, dk, rfl, hg, hjk, hkm, hdk, U, S⟩ := hrel
              by_cases hlt : j < k
              · obtain ⟨kp, rfl⟩ : ∃ kp, k = kp + 1 := ⟨k - 1, by omega⟩
                have h1d : kp + 1 < dk.size := by omega
                have h2d : kp < dk.size := by omega
                obtain ⟨a0, a1⟩ := S.cells h1d
                obtain ⟨b0, b1⟩ := S.cells h2d
                have S3 := Lib.hid (S.swap (i := kp + 1) (j := kp) h1d h2d)
                have UN := Lib.hid (U.out.step (by omega) (by omega) (by omega))
                have f0 := S.free (kp * 2)
                have f1 := S.free (kp * 2 + 1)
                have f2 := S.free ((kp + 1) * 2)
                have f3 := S.free ((kp + 1) * 2 + 1)
                generalize dk[kp + 1]! = x at *
                generalize dk[kp]! = y at *
                have ltz : (j : Int) < (kp : Int) + 1 := by omega
                have kz : (kp : Int) < (sz : Int) := by omega
                have kz1 : (kp : Int) + 1 < (sz : Int) := by omega
                have kz2 : ((kp : Int) + 1).toNat = kp + 1 := by omega
                go_upto_region 23 with fail
                go_region
                replace S3 := S3.out.grew (Grew.refl _).drew
                clear a0 a1 b0 b1 f0 f1 f2 f3 S
                generalize World.drew _ = w3 at S3 ⊢
                go_wp2
                go_roundg (kp - j)
                case measure => omega
                case rel => exact ⟨kp, _, by go_num, Nat.le_refl _, by omega, by omega, by rw [size_swp]; exact hdk, UN, S3⟩
              · have hltz : ¬ (j : Int) < (k : Int) := by omega
                have ek : k = j := by omega
                subst ek
                have HS := Lib.hid (merged2 H1.out F.out U.out)
                rw [← HMA.out] at HS
                have HP := Lib.hid U.out.perm
                rw [← HMA.out] at HP
                go_wp2
                refine bodyPost_ret (results_none (by kernel_rfl) _ _ _) rfl ?_
                exact ⟨rfl, dk, S, HP.out, HS.out⟩
      · have e0 : ((m : Int) - (a : Int) == 1) = false := by rw [beq_eq_false_iff_ne]; omega
        have e1 : ((b : Int) - (m : Int) == 1) = false := by rw [beq_eq_false_iff_ne]; omega
        obtain ⟨mid, hmid⟩ : ∃ mid, mid = (a + b) / 2 := ⟨_, rfl⟩
        have hmz : ((a : Int) + (b : Int)) / 2 = (mid : Int) := by omega
        have hm1 : a < mid := by omega
        have hm2 : mid < b := by omega
        have HMID := Lib.hid hmid
        clear hmid c1 c2
        go_enter Tryd.func153, Tryd.ntmps153
        go_upto_if 140 with fail
        go_cut [20, 21] from 140 to 146 (fun v20 v21 wx => ∃ (lo hi : Nat), v20 = .int .i64 lo ∧ v21 = .int .i64 hi ∧ lo ≤ hi ∧ hi ≤ m ∧ hi ≤ mid ∧ Hid (Lm a m b mid lo hi) ∧ St wb G d wx)
        case first =>
          by_cases hc : mid < m
          · have hcz : (mid : Int) < (m : Int) := by omega
            have hcz2 : (mid : Int) + (m : Int) - (b : Int) = ((mid + m - b : Nat) : Int) := by have := HMID.out; omega
            have HL : Hid (Lm a m b mid (mid + m - b) mid) := Lib.hid ⟨ham, hmb, HMID.out, by omega, .inl ⟨hc, rfl, rfl⟩⟩
            go_wp2
            go_meet
            case rel => exact ⟨mid + m - b, mid, rfl, rfl, by omega, by omega, Nat.le_refl _, HL, S⟩
          · have hcz : ¬ (mid : Int) < (m : Int) := by omega
            have HL : Hid (Lm a m b mid a m) := Lib.hid ⟨ham, hmb, HMID.out, by omega, .inr ⟨by omega, rfl, rfl⟩⟩
            go_wp2
            go_meet
            case rel => exact ⟨a, m, rfl, rfl, by omega, Nat.le_refl _, by omega, HL, S⟩
        case rest =>
          clear S
          obtain ⟨lo, hi, rfl, rfl, hlh, hhm, hhd, L, S⟩ := hcut
          have MN := Lib.hid (L.out.mono H1.out H2.out)
          go_wp2
          go_loopg [20, 21] (hi - lo) (fun g vi vj wr => ∃ (i j : Nat), vi = .int .i64 i ∧ vj = .int .i64 j ∧ j - i ≤ g ∧ lo ≤ i ∧ i ≤ j ∧ j ≤ hi ∧ Hid (Srch (fun x => ltR d[mid + m - 1 - x]! d[x]!) lo hi i j) ∧ St wb G d wr)
          case atStart => exact ⟨lo, hi, rfl, rfl, Nat.le_refl _, Nat.le_refl _, hlh, Nat.le_refl _, Lib.hid (Srch.start _ hlh), S⟩
          case round =>
            clear S
            obtain ⟨i, j, rfl, rfl, hg, hmi, hij, hjb, F, S⟩ := hrel
            by_cases hlt : i < j
            · have hltz : (i : Int) < (j : Int) := by omega
              obtain ⟨h, hh⟩ : ∃ h, h = (i + j) / 2 := ⟨_, rfl⟩
              have hs : ((i : Int) + (j : Int)) / 2 = (h : Int) := by omega
              have ih1 : i ≤ h := by omega
              have ih2 : h < j := by omega
              have HH := Lib.hid hh
              clear hh
              obtain ⟨q, hq⟩ : ∃ q, q = mid + m - 1 - h := ⟨_, rfl⟩
              have hqz : (mid : Int) + (m : Int) - 1 - (h : Int) = (q : Int) := by omega
              have hqb : q < b := by rcases L.out.cs with k | k <;> have := HMID.out <;> omega
              have hd1 : q < d.size := by omega
              have hd2 : h < d.size := by omega
              obtain ⟨a0, a1⟩ := S.cells hd1
              obtain ⟨b0, b1⟩ := S.cells hd2
              have rx := S.row hd1
              have ry := S.row hd2
              have FU := Lib.hid (fun k : ltR d[mid + m - 1 - h]! d[h]! = false => F.out.up MN.out ih1 ih2 k)
              have FD := Lib.hid (fun k : ltR d[mid + m - 1 - h]! d[h]! = true => F.out.down MN.out ih1 ih2 k)
              rw [← hq] at FU FD
              have HQ := Lib.hid hq
              clear hq
              generalize hx : d[q]! = x at *
              generalize hy : d[h]! = y at *
              replace a0 := After.cell a0
              replace a1 := After.cell a1
              replace b0 := After.cell b0
              replace b1 := After.cell b1
              obtain ⟨r, hr⟩ : ∃ r, cmpT x.t y.t = r := ⟨_, rfl⟩
              have hz : (h : Int) < (sz : Int) := by omega
              have qz : (q : Int) < (sz : Int) := by omega
              have qw : IntKind.i64.wrap (q : Int) = (q : Int) := by rw [IntKind.wrap_i64]; omega
              have HX := Lib.hid hx
              have HY := Lib.hid hy
              clear hx hy
              go_upto_region 35 with fail
              refine wp_region_after (by kernel_rfl) (by kernel_rfl) ?_
              repeat (quiet_step ((go_at_call 73; exact byArgs_after rx ry _)))
              refine wpQuiet_nil ?_
              intro w2 hg2
              replace S := S.grew hg2
              clear a0 a1 b0 b1
              by_cases hlv : r < 0
              · have HN := Lib.hid (FD.out (by unfold ltR; rw [hr, decide_eq_true hlv]))
                rw [decide_eq_true hlv]
                go_wp2
                go_roundg (h - i)
                case measure => omega
                case rel => exact ⟨i, h, rfl, rfl, Nat.le_refl _, hmi, ih1, by omega, HN, S⟩
              · have HN := Lib.hid (FU.out (by unfold ltR; rw [hr, decide_eq_false hlv]))
                rw [decide_eq_false hlv]
                go_wp2
                go_roundg (j - (h + 1))
                case measure => omega
                case rel => exact ⟨h + 1, j, by go_num, rfl, Nat.le_refl _, by omega, by omega, hjb, HN, S⟩
            · have hltz : ¬ (i : Int) < (j : Int) := by omega
              have eij : j = i := by omega
              subst eij
              obtain ⟨s1, s2, s3, s4, s5, s6, s7⟩ := L.out.ends F.out
              obtain ⟨e, he⟩ : ∃ e, e = mid + m - j := ⟨_, rfl⟩
              have hez : (mid : Int) + (m : Int) - (j : Int) = (e : Int) := by omega
              have CR := Lib.hid (fun d' (R : Rtd j m (mid + m - j) d d') => L.out.cross H1.out H2.out F.out R)
              rw [← he] at s3 s4 s6 CR
              have HE := Lib.hid he
              have hes : (e : Int) < (sz : Int) + 1 := by omega
              clear he F L MN H1 H2 hg hij hlt hltz hjb
              obtain ⟨q1, Q1⟩ : ∃ q1, Hid (q1 = (decide (j < m) && decide (m < e))) := ⟨_, rfl⟩
              go_upto_region 39 with fail
              go_cut [185] from 178 to 185 (fun v wx => v = .bool q1 ∧ wr = wx)
              case first =>
                by_cases k1 : j < m
                · have k1z : (j : Int) < (m : Int) := by omega
                  by_cases k2 : m < e
                  · have k2z : (m : Int) < (e : Int) := by omega
                    obtain rfl : q1 = true := by rw [Q1.out]; simp [k1, k2]
                    clear k1 k2
                    go_wp2
                    go_meet
                    case rel => exact ⟨rfl, rfl⟩
                  · have k2z : ¬ (m : Int) < (e : Int) := by omega
                    obtain rfl : q1 = false := by rw [Q1.out]; simp [k1, k2]
                    clear k1 k2
                    go_wp2
                    go_meet
                    case rel => exact ⟨rfl, rfl⟩
                · have k1z : ¬ (j : Int) < (m : Int) := by omega
                  obtain rfl : q1 = false := by rw [Q1.out]; simp [k1]
                  clear k1
                  go_wp2
                  go_meet
                  case rel => exact ⟨rfl, rfl⟩
              case rest =>
                obtain ⟨rfl, hwx⟩ := hcut
                subst hwx
                go_upto_if 185 with fail
                go_cut [191] from 185 to 191 (fun v wx => ∃ d2, St wb G d2 wx ∧ Hid (Rtd j m e d d2))
                case first =>
                  cases q1
                  · have R0 := Lib.hid (Rtd.none (d := d) s2 s3 (by have := Q1.out; simpa using this))
                    go_wp2
                    go_meet
                    case rel => exact ⟨d, S, R0⟩
                  · have K : j < m ∧ m < e := by have := Q1.out; simpa using this
                    obtain ⟨k1, k2⟩ := K
                    go_wp2_with fail
                    have hC := rotate_any wb G c j m e d _ S k1 k2 (by omega) (by omega)
                    rw [hd] at hC
                    refine hC.mono ?_
                    rintro e w1 ⟨rfl, d2, S2, R2⟩
                    have R0 := Lib.hid (Rtd.of k1 k2 R2)
                    clear k1 k2
                    go_wp2
                    go_meet
                    case rel => exact ⟨d2, S2, R0⟩
                case rest =>
                  clear S Q1
                  obtain ⟨d2, S, R⟩ := hcut
                  have hR := R.out.perm
                  obtain ⟨C0, C1, C2, C3, C4⟩ := CR.out _ R.out
                  have hd2 : d2.size = sz := hR.1.trans hd
                  have P2 := Lib.hid (permIn_mono _ _ _ _ a b s1 s4 (by omega) hR)
                  replace C0 := Lib.hid C0
                  replace C1 := Lib.hid C1
                  replace C2 := Lib.hid C2
                  replace C3 := Lib.hid C3
                  replace C4 := Lib.hid C4
                  clear hR R CR
                  obtain ⟨q2, Q2⟩ : ∃ q2, Hid (q2 = (decide (a < j) && decide (j < mid))) := ⟨_, rfl⟩
                  go_upto_region 41 with fail
                  go_cut [199] from 192 to 199 (fun v wx => v = .bool q2 ∧ _ = wx)
                  case first =>
                    by_cases k1 : a < j
                    · have k1z : (a : Int) < (j : Int) := by omega
                      by_cases k2 : j < mid
                      · have k2z : (j : Int) < (mid : Int) := by omega
                        obtain rfl : q2 = true := by rw [Q2.out]; simp [k1, k2]
                        clear k1 k2
                        go_wp2
                        go_meet
                        case rel => exact ⟨rfl, rfl⟩
                      · have k2z : ¬ (j : Int) < (mid : Int) := by omega
                        obtain rfl : q2 = false := by rw [Q2.out]; simp [k1, k2]
                        clear k1 k2
                        go_wp2
                        go_meet
                        case rel => exact ⟨rfl, rfl⟩
                    · have k1z : ¬ (a : Int) < (j : Int) := by omega
                      obtain rfl : q2 = false := by rw [Q2.out]; simp [k1]
                      clear k1
                      go_wp2
                      go_meet
                      case rel => exact ⟨rfl, rfl⟩
                  case rest =>
                    obtain ⟨rfl, hwx⟩ := hcut
                    subst hwx
                    go_upto_if 199 with fail
                    go_cut [205] from 199 to 205 (fun v wx => ∃ d3, St wb G d3 wx ∧ Hid (PermIn a mid d2 d3) ∧ Hid (SortedIn ltR a mid d3))
                    case first =>
                      cases q2
                      · have HS := Lib.hid (half_none C1.out C2.out (by have := Q2.out; simp at this; omega) s1 s5)
                        have HP := Lib.hid (permIn_refl d2 a mid)
                        go_wp2
                        go_meet
                        case rel => exact ⟨d2, S, HP, HS⟩
                      · have K : a < j ∧ j < mid := by have := Q2.out; simpa using this
                        obtain ⟨k1, k2⟩ := K
                        go_wp2_with fail
                        refine (ih a j mid d2 _ (by omega) S hd2 k1 k2 (by omega) C1 C2).mono ?_
                        rintro e w1 ⟨rfl, d3, S3, P3, S4⟩
                        replace P3 := Lib.hid P3
                        replace S4 := Lib.hid S4
                        clear k1 k2
                        go_wp2
                        go_meet
                        case rel => exact ⟨d3, S3, P3, S4⟩
                    case rest =>
                      clear S Q2
                      obtain ⟨d3, S, P3, S3⟩ := hcut
                      have hd3 : d3.size = sz := P3.out.1.trans hd2
                      replace C0 := Lib.hid (C0.out.left (by omega) (by omega) P3.out)
                      replace C3 := Lib.hid (SortedIn.same C3.out (d' := d3) fun x k1 k2 => P3.out.2.1 x (.inr k1))
                      replace C4 := Lib.hid (SortedIn.same C4.out (d' := d3) fun x k1 k2 => P3.out.2.1 x (.inr (by omega)))
                      replace P2 := Lib.hid (permIn_trans _ _ _ _ _ P2.out (permIn_mono _ _ _ _ a b (Nat.le_refl _) (by omega) (by omega) P3.out))
                      clear C1 C2 P3
                      obtain ⟨q3, Q3⟩ : ∃ q3, Hid (q3 = (decide (mid < e) && decide (e < b))) := ⟨_, rfl⟩
                      go_upto_region 43 with fail
                      go_cut [213] from 206 to 213 (fun v wx => v = .bool q3 ∧ _ = wx)
                      case first =>
                        by_cases k1 : mid < e
                        · have k1z : (mid : Int) < (e : Int) := by omega
                          by_cases k2 : e < b
                          · have k2z : (e : Int) < (b : Int) := by omega
                            obtain rfl : q3 = true := by rw [Q3.out]; simp [k1, k2]
                            clear k1 k2
                            go_wp2
                            go_meet
                            case rel => exact ⟨rfl, rfl⟩
                          · have k2z : ¬ (e : Int) < (b : Int) := by omega
                            obtain rfl : q3 = false := by rw [Q3.out]; simp [k1, k2]
                            clear k1 k2
                            go_wp2
                            go_meet
                            case rel => exact ⟨rfl, rfl⟩
                        · have k1z : ¬ (mid : Int) < (e : Int) := by omega
                          obtain rfl : q3 = false := by rw [Q3.out]; simp [k1]
                          clear k1
                          go_wp2
                          go_meet
                          case rel => exact ⟨rfl, rfl⟩
                      case rest =>
                        obtain ⟨rfl, hwx⟩ := hcut
                        subst hwx
                        go_upto_if 213 with fail
                        cases q3
                        · have HS0 := Lib.hid (half_none C3.out C4.out (by have := Q3.out; simp at this; omega) s6 s4)
                          have HS := Lib.hid (C0.out.sorted S3.out HS0.out)
                          go_wp2
                          go_end0
                          exact ⟨rfl, d3, S, P2.out, HS.out⟩
                        · have K : mid < e ∧ e < b := by have := Q3.out; simpa using this
                          obtain ⟨k1, k2⟩ := K
                          go_wp2_with fail
                          refine (ih mid e b d3 _ (by omega) S hd3 k1 k2 (by omega) C3 C4).mono ?_
                          rintro e w1 ⟨rfl, d4, S4, P4, S5⟩
                          have HP := Lib.hid (permIn_trans _ _ _ _ _ P2.out (permIn_mono _ _ _ _ a b (by omega) (Nat.le_refl _) (by omega) P4))
                          have HS := Lib.hid ((C0.out.right (by omega) P4).sorted (SortedIn.same S3.out fun x k1 k2 => P4.2.1 x (.inl k2)) S5)
                          clear P4 S5 k1 k2
                          go_wp2
                          go_end0
                          exact ⟨rfl, d4, S4, HP.out, HS.out⟩
end Go.Proofs.YtdibijhaiaiifaaDoor
/- The walks of the library's stable sort. -/
namespace Go.Proofs.YtdibijhaiaiifaaDoor
open Go.RowKit
open Go.Sort
/-- From a on the blocks of s rows are sorted. -/
inductive Bl (s n : Nat) (d : Array RR) : Nat → Prop
  | done {a : Nat} (h : n ≤ a) : Bl s n d a
  | step {a : Nat} (h : SortedIn ltR a (min (a + s) n) d) (k : Bl s n d (a + s)) : Bl s n d a
/-- The blocks of s rows before a are sorted. -/
inductive Dn (s : Nat) (d : Array RR) : Nat → Prop
  | zero : Dn s d 0
  | step {a : Nat} (h : Dn s d a) (k : SortedIn ltR a (a + s) d) : Dn s d (a + s)
section
variable {s n : Nat} {d d' : Array RR}
theorem Bl.same {a : Nat} (h : Bl s n d a) : (∀ x, a ≤ x → d'[x]! = d[x]!) → Bl s n d' a := by
  induction h with
  | done h => intro _; exact .done h
  | step h k ih => intro e; exact .step (SortedIn.same h fun x k1 k2 => e x k1) (ih fun x hx => e x (by omega))
theorem Dn.same {a : Nat} (h : Dn s d a) : (∀ x, x < a → d'[x]! = d[x]!) → Dn s d' a := by
  induction h with
  | zero => intro _; exact .zero
  | step h k ih => intro e; exact .step (ih fun x hx => e x (by omega)) (SortedIn.same k fun x k1 k2 => e x k2)
theorem Bl.first {a : Nat} (h : Bl s n d a) : SortedIn ltR a (min (a + s) n) d := by
  cases h with
  | done h => exact SortedIn.short (by omega)
  | step h k => exact h
theorem Bl.next {a : Nat} (h : Bl s n d a) : Bl s n d (a + s) := by
  cases h with
  | done h => exact .done (by omega)
  | step h k => exact k
theorem Dn.all {a : Nat} (h : Dn s d a) : a ≤ n → Bl s n d a → Bl s n d 0 := by
  induction h with
  | zero => intro _ h; exact h
  | @step a h k ih => intro ha hb; exact ih (by omega) (.step (by rw [Nat.min_eq_left ha]; exact k) hb)
theorem Bl.of_last {a : Nat} (h : SortedIn ltR a n d) (hs : n ≤ a + s) : Bl s n d a := .step (by rw [Nat.min_eq_right hs]; exact h) (.done hs)
theorem insertion_perm {a b : Nat} (hab : a ≤ b) (hb : b ≤ d.size) : PermIn a b d (insertionSort ltR d a b) ∧ SortedIn ltR a b (insertionSort ltR d a b) := insertionSort_holds swoR d a b hab hb
theorem permIn_up {sz a b : Nat} (hs : d.size = sz) (hb : b ≤ sz) (h : PermIn a b d d') : PermIn 0 sz d d' := permIn_mono _ _ _ _ _ _ (Nat.zero_le _) hb (by omega) h
end
set_option maxHeartbeats 4000000 in
set_option maxRecDepth 1000000 in
theorem stable_any (wb : World) (G c sz : Nat) (hsz : sz ≤ 1000000) (d0 : Array RR) (w : World) (S : St wb G d0 w) (hd : d0.size = sz) :
    Calls Tryd.prog 144 #[.slice (some ⟨G, 0, none⟩) sz c, .int .i64 sz, .func (.func 73) #[] #[]] w fun e w' => e = .returned (.tuple #[]) ∧ ∃ d', St wb G d' w' ∧ PermIn 0 sz d0 d' ∧ SortedIn ltR 0 sz d' := by
  go_enter Tryd.func144, Tryd.ntmps144
  go_wp2
  go_loopg [7, 8] sz (fun g va vb wr => ∃ (a : Nat) (d : Array RR), va = .int .i64 a ∧ vb = .int .i64 (a + 20 : Nat) ∧ a ≤ sz ∧ sz - a ≤ g ∧ d.size = sz ∧ St wb G d wr ∧ Hid (PermIn 0 sz d0 d) ∧ Hid (Dn 20 d a))
  case atStart => exact ⟨0, d0, rfl, rfl, Nat.zero_le _, Nat.le_refl _, hd, S, Lib.hid (permIn_refl _ _ _), Lib.hid .zero⟩
  case round =>
    clear S
    obtain ⟨a, d, rfl, rfl, has, hg, hds, S, P, D⟩ := hrel
    by_cases hlt : a + 20 ≤ sz
    · have hltz : (a : Int) + 20 ≤ (sz : Int) := by omega
      have hI := insertion_perm (d := d) (a := a) (b := a + 20) (by omega) (by omega)
      have PN := Lib.hid (permIn_trans _ _ _ _ _ P.out (permIn_up hds hlt hI.1))
      have DN := Lib.hid (Dn.step (D.out.same (d' := insertionSort ltR d a (a + 20)) fun x hx => hI.1.2.1 x (.inl hx)) hI.2)
      have hz := hI.1.1
      clear hI
      go_wp2_with fail
      have hC := insertion_any wb G c a (a + 20) d _ S (by omega) (by omega) (by omega)
      rw [hds] at hC
      refine hC.mono ?_
      rintro e w1 ⟨rfl, S1⟩
      generalize insertionSort ltR d a (a + 20) = d1 at *
      clear hC S
      go_wp2
      go_roundg (sz - (a + 20))
      case measure => omega
      case rel => exact ⟨a + 20, d1, by go_num, by go_num, hlt, Nat.le_refl _, by omega, S1, PN, DN⟩
    · have hltz : ¬ (a : Int) + 20 ≤ (sz : Int) := by omega
      have hI := insertion_perm (d := d) (a := a) (b := sz) (by omega) (by omega)
      have PN := Lib.hid (permIn_trans _ _ _ _ _ P.out (permIn_up hds (Nat.le_refl _) hI.1))
      have BN := Lib.hid ((D.out.same (d' := insertionSort ltR d a sz) fun x hx => hI.1.2.1 x (.inl hx)).all has (Bl.of_last hI.2 (by omega)))
      have hz := hI.1.1
      clear hI
      go_wp2_with fail
      have hC := insertion_any wb G c a sz d _ S (by omega) (by omega) (by omega)
      rw [hds] at hC
      refine hC.mono ?_
      rintro e w1 ⟨rfl, S1⟩
      generalize insertionSort ltR d a sz = d1 at *
      have hd1 : d1.size = sz := by omega
      clear hC S hz P D
      go_wp2
      go_loopg [6] (sz + 1) (fun g vs wr => ∃ (s : Nat) (d : Array RR), vs = .int .i64 s ∧ 1 ≤ s ∧ s ≤ 2 * sz + 20 ∧ sz + 1 - s ≤ g ∧ d.size = sz ∧ St wb G d wr ∧ Hid (PermIn 0 sz d0 d) ∧ Hid (Bl s sz d 0))
      case atStart => exact ⟨20, d1, rfl, by omega, by omega, by omega, hd1, S1, PN, BN⟩
      case round =>
        clear S1 PN BN hd1
        obtain ⟨s, d, rfl, hs1, hs2, hg2, hds, S, P, B⟩ := hrel
        by_cases hlt2 : s < sz
        · have hltz2 : (s : Int) < (sz : Int) := by omega
          go_wp2
          go_loopg [7, 8] sz (fun g va vb wr => ∃ (a : Nat) (d : Array RR), va = .int .i64 a ∧ vb = .int .i64 (a + 2 * s : Nat) ∧ a ≤ sz ∧ sz - a ≤ g ∧ d.size = sz ∧ St wb G d wr ∧ Hid (PermIn 0 sz d0 d) ∧ Hid (Dn (2 * s) d a) ∧ Hid (Bl s sz d a))
          case atStart => exact ⟨0, d, rfl, by go_num, Nat.zero_le _, Nat.le_refl _, hds, S, P, Lib.hid .zero, B⟩
          case round =>
            clear S P B hds
            obtain ⟨a, d, rfl, rfl, has, hg, hds, S, P, D, B⟩ := hrel
            by_cases hlt3 : a + 2 * s ≤ sz
            · have hltz3 : (a : Int) + 2 * (s : Int) ≤ (sz : Int) := by omega
              have H1 : Hid (SortedIn ltR a (a + s) d) := Lib.hid (by have := B.out.first; rwa [Nat.min_eq_left (by omega)] at this)
              have H2 : Hid (SortedIn ltR (a + s) (a + 2 * s) d) := Lib.hid (by have := B.out.next.first; rwa [Nat.min_eq_left (by omega), show a + s + s = a + 2 * s by omega] at this)
              have BN := Lib.hid B.out.next.next
              rw [show a + s + s = a + 2 * s by omega] at BN
              go_wp2_with fail
              have hC := symMerge_any wb G c sz hsz (2 * s) a (a + s) (a + 2 * s) d _ (by omega) S hds (by omega) (by omega) (by omega) H1 H2
              refine hC.mono ?_
              rintro e w2 ⟨rfl, d2, S2, P2, T2⟩
              have PN := Lib.hid (permIn_trans _ _ _ _ _ P.out (permIn_up hds hlt3 P2))
              have DN := Lib.hid (Dn.step (D.out.same (d' := d2) fun x hx => P2.2.1 x (.inl hx)) T2)
              replace BN := Lib.hid (BN.out.same (d' := d2) fun x hx => P2.2.1 x (.inr hx))
              have hd2 : d2.size = sz := P2.1.trans hds
              clear hC P D B S P2 T2 H1 H2
              go_wp2
              go_roundg (sz - (a + 2 * s))
              case measure => omega
              case rel => exact ⟨a + 2 * s, d2, by go_num, by go_num, hlt3, Nat.le_refl _, hd2, S2, PN, DN, BN⟩
            · have hltz3 : ¬ (a : Int) + 2 * (s : Int) ≤ (sz : Int) := by omega
              by_cases hlt4 : a + s < sz
              · have hltz4 : (a : Int) + (s : Int) < (sz : Int) := by omega
                have H1 : Hid (SortedIn ltR a (a + s) d) := Lib.hid (by have := B.out.first; rwa [Nat.min_eq_left (by omega)] at this)
                have H2 : Hid (SortedIn ltR (a + s) sz d) := Lib.hid (by have := B.out.next.first; rwa [Nat.min_eq_right (by omega)] at this)
                go_wp2_with fail
                have hC := symMerge_any wb G c sz hsz sz a (a + s) sz d _ (by omega) S hds (by omega) (by omega) (by omega) H1 H2
                refine hC.mono ?_
                rintro e w2 ⟨rfl, d2, S2, P2, T2⟩
                have PN := Lib.hid (permIn_trans _ _ _ _ _ P.out (permIn_up hds (Nat.le_refl _) P2))
                have BN := Lib.hid ((D.out.same (d' := d2) fun x hx => P2.2.1 x (.inl hx)).all has (Bl.of_last T2 (by omega)))
                have hd2 : d2.size = sz := P2.1.trans hds
                clear hC P D B S P2 T2 H1 H2
                go_wp2
                go_roundg (sz + 1 - 2 * s)
                case measure => omega
                case rel => exact ⟨2 * s, d2, by go_num, by omega, by omega, Nat.le_refl _, hd2, S2, PN, BN⟩
              · have hltz4 : ¬ (a : Int) + (s : Int) < (sz : Int) := by omega
                have BN := Lib.hid (D.out.all has (Bl.of_last (by have := B.out.first; rwa [Nat.min_eq_right (by omega)] at this) (by omega)))
                clear D B
                go_wp2
                go_roundg (sz + 1 - 2 * s)
                case measure => omega
                case rel => exact ⟨2 * s, d, by go_num, by omega, by omega, Nat.le_refl _, hds, S, P, BN⟩
        · have hltz2 : ¬ (s : Int) < (sz : Int) := by omega
          have T := Lib.hid (show SortedIn ltR 0 sz d by have := B.out.first; rwa [Nat.min_eq_right (by omega)] at this)
          go_wp2
          go_end0
          exact ⟨rfl, d, S, P.out, T.out⟩
end Go.Proofs.YtdibijhaiaiifaaDoor
/- Slices that a call owns whose rows lead to further memory; the library's SortStableFunc. -/
namespace Go.Proofs.YtdibijhaiaiifaaDoor
open Go.RowKit
open Go.Sort
/-- The worlds agree but at the blocks X; the second may have more of them. -/
structure Agree (X : Nat → Prop) (A B : World) : Prop where
  os : B.os = A.os
  tape : B.tape = A.tape
  output : B.output = A.output
  size : A.heap.size ≤ B.heap.size
  block : ∀ k, k < A.heap.size → ¬ X k → B.heap[k]? = A.heap[k]?
theorem Agree.refl (X : Nat → Prop) (A : World) : Agree X A A := ⟨rfl, rfl, rfl, Nat.le_refl _, fun _ _ _ => rfl⟩
theorem Agree.trans {X : Nat → Prop} {A B C : World} (h : Agree X A B) (k : Agree X B C) : Agree X A C :=
  ⟨k.os.trans h.os, k.tape.trans h.tape, k.output.trans h.output, Nat.le_trans h.size k.size, fun i hi hx => (k.block i (Nat.lt_of_lt_of_le hi h.size) hx).trans (h.block i hi hx)⟩
theorem Agree.mono {X Y : Nat → Prop} {A B : World} (h : Agree X A B) (hxy : ∀ k, X k → Y k) : Agree Y A B := ⟨h.os, h.tape, h.output, h.size, fun k hk hy => h.block k hk fun hx => hy (hxy k hx)⟩
theorem Agree.of_below {X : Nat → Prop} {A B : World} (h : Below A.heap.size A B) : Agree X A B := ⟨h.os, h.tape, h.output, h.size, fun k hk _ => h.block k hk⟩
theorem Agree.of_grown {X : Nat → Prop} {A B : World} {r : Option Nat} (h : A.grownBy B r) (hr : ∀ k, r = some k → X k) : Agree X A B := ⟨h.os, h.tape, h.output, h.size, fun k hk hx => h.block k hk fun e => hx (hr k e.symm)⟩
/-- Where all that differs lies at or behind n. -/
theorem Agree.below {X : Nat → Prop} {A B : World} (h : Agree X A B) {n : Nat} (hn : n ≤ A.heap.size) (hx : ∀ k, X k → n ≤ k) : Below n A B := ⟨h.os, h.tape, h.output, h.size, fun k hk => h.block k (by omega) fun e => by have := hx k e; omega⟩
theorem Agree.cell {X : Nat → Prop} {A B : World} (h : Agree X A B) {p : Addr} {v : Value} (hc : A.cell? p = some v) (hx : ¬ X p.block) : B.cell? p = some v := (World.cell?_of_block (h.block p.block (cell_lt hc) hx)).trans hc
def noB : Nat → Prop := fun _ => False
/-- The block of v, or one of ex. -/
def Ex (v : Value) (ex : Nat → Prop) : Nat → Prop := fun k => v.ownBlock = some k ∨ ex k
section
variable {α : Type} {ok : World → α → Prop}
/-- Whatever becomes of the blocks X, x is as it should be. -/
def Off (ok : World → α → Prop) (w : World) (X : Nat → Prop) (x : α) : Prop := ∀ w', Agree X w w' → ok w' x
theorem Off.here {w : World} {X : Nat → Prop} {x : α} (h : Off ok w X x) : ok w x := h w (Agree.refl _ _)
theorem Off.agree {w w' : World} {X : Nat → Prop} {x : α} (h : Off ok w X x) (hg : Agree X w w') : Off ok w' X x := fun w2 h2 => h w2 (hg.trans h2)
theorem Off.keep {w w' : World} {X : Nat → Prop} {x : α} (h : Off ok w X x) (hb : Below w.heap.size w w') : Off ok w' X x := h.agree (.of_below hb)
/-- What is elder than X. -/
theorem Off.old {w w' : World} {X : Nat → Prop} {x : α} (hk : ∀ w w' : World, Below w.heap.size w w' → ok w x → ok w' x) (h : ok w x) (hb : Below w.heap.size w w') (hx : ∀ k, X k → w.heap.size ≤ k) : Off ok w' X x := fun w2 h2 =>
  hk w w2 (hb.trans (h2.below hb.size hx)) h
/-- A slice that the call owns, and its rows apart from it and from the blocks ex. -/
def Hold (k : Nat) (e : TypeId) (enc : α → List Value) (ok : World → α → Prop) (ex : Nat → Prop) (w : World) (base : Nat) (v : Value) (l : List α) : Prop := Owns k e enc w base v l ∧ ∀ x ∈ l, Off ok w (Ex v ex) x
variable {k bytes : Nat} {t e : TypeId} {z : Value} {enc : α → List Value} {wr w w' : World} {base : Nat} {v x : Value} {l m : List α} {ex : Nat → Prop}
theorem Owns.agree {X : Nat → Prop} (h : Owns k e enc w base v l) (hg : Agree X w w') (hx : ∀ k, X k → k < base) : Owns k e enc w' base v l := by
  refine ⟨h.1, ?_⟩
  rcases h.2 with h | ⟨g, cap, cur, e1, hb, hh, r⟩
  · exact .inl h
  · exact .inr ⟨g, cap, cur, e1, hb, (hg.block g (block_lt hh) fun q => by have := hx g q; omega).trans hh, r⟩
theorem Hold.keep (h : Hold k e enc ok ex w base v l) (hb : Below w.heap.size w w') : Hold k e enc ok ex w' base v l := ⟨h.1.keep hb, fun x hx => (h.2 x hx).keep hb⟩
theorem Hold.agree (h : Hold k e enc ok ex w base v l) (hg : Agree ex w w') (hx : ∀ k, ex k → k < base) : Hold k e enc ok ex w' base v l := ⟨h.1.agree hg hx, fun x hx => (h.2 x hx).agree (hg.mono fun _ h => .inr h)⟩
theorem Hold.nil (w : World) (base : Nat) : Hold k e enc ok ex w base (.slice none 0 0) [] := ⟨Owns.nil _ _, by simp⟩
theorem Hold.form (h : Hold k e enc ok ex w base v l) : ∃ a c, v = .slice a l.length c := h.1.form
theorem Hold.less {ey : Nat → Prop} (h : Hold k e enc ok ex w base v l) (hx : ∀ k, ey k → ex k) : Hold k e enc ok ey w base v l := ⟨h.1, fun x hl w' hw => h.2 x hl w' (hw.mono fun k hk => hk.imp id (hx k))⟩
theorem run_hold {w : World} (ty : TypeId) (hF : Fits t e k bytes z) (hE : Encs k enc) (hO : Hold k e enc ok ex wr base v l) (hb : Below wr.heap.size wr w) (hm : IsRows k enc w x m) (hmo : ∀ u ∈ m, Off ok w (Ex v ex) u) (hbase : base ≤ wr.heap.size) (hL : l.length ≤ 1000000) (hM : m.length ≤ 1000000) :
    ∃ p c w', (Builtin.append_ #[t, t] ty #[v, x]).run Tryd.prog w = .ok (.slice p (l ++ m).length c) w' ∧ Hold k e enc ok ex w' base (.slice p (l ++ m).length c) (l ++ m) ∧ Below base wr w' ∧ w.grownBy w' v.ownBlock := by
  obtain ⟨i0, hi, hz0, hz1, hz2⟩ := info_parts' hF.info
  have hown : w.ownsRow base e k v l.length (l.flatMap enc) := own_keep hO.1 hb
  have h1 : (l.length + m.length) * bytes ≤ 140737488355328 := Nat.le_trans (Nat.mul_le_mul (show l.length + m.length ≤ 2000000 by omega) hF.small) (by omega)
  obtain ⟨v', w', hr, hown', hg, hmv⟩ := run_append_rows enc t ty base e i0 _ k bytes hF.und hi hz0 hz1 hz2 hF.zs hF.pos v l.length _ hown x m hm (fun y _ => hE.len y) (fun y _ => hE.one y) (by unfold maxLen; omega) h1 (by have := hb.size; omega)
  have h2 : Owns k e enc w' base v' (l ++ m) := by unfold Owns; rw [List.length_append, List.flatMap_append]; exact hown'
  have h3 : Hold k e enc ok ex w' base v' (l ++ m) := by
    refine ⟨h2, fun u hu => ?_⟩
    have hu2 : Off ok w (Ex v ex) u := by
      rcases List.mem_append.1 hu with h | h
      · exact (hO.2 u h).keep hb
      · exact hmo u h
    have ha : Agree (Ex v ex) w w' := .of_grown hg fun k hk => .inl hk
    rcases hmv with e1 | e1
    · have : Ex v' ex = Ex v ex := by unfold Ex; rw [e1]
      rw [this]; exact hu2.agree ha
    · intro w2 hw2
      refine hu2 w2 ⟨hw2.os.trans hg.os, hw2.tape.trans hg.tape, hw2.output.trans hg.output, Nat.le_trans hg.size hw2.size, fun i hi hr => (hw2.block i (Nat.lt_of_lt_of_le hi hg.size) fun q => ?_).trans (ha.block i hi hr)⟩
      rcases q with q | q
      · rw [e1] at q; injection q with q; omega
      · exact hr (.inr q)
  obtain ⟨p, c, rfl⟩ := h3.form
  exact ⟨p, c, w', hr, h3, below_own hO.1 hb hg hbase, hg⟩
theorem wp_hold {w : World} {o : Oper} {a : Act} {K : Act → World → Prop} {Q : Exit → Act → World → Prop} (hF : Fits t e k bytes z) (hE : Encs k enc) (s y : Operand) (ho : o.op = .call { callee := .builtin .append, args := #[s, y], argTypes := #[t, t] })
    (hs : a.eval s = v) (hy : a.eval y = x) (hO : Hold k e enc ok ex wr base v l) (hb : Below wr.heap.size wr w) (hm : IsRows k enc w x m) (hmo : ∀ u ∈ m, Off ok w (Ex v ex) u) (hbase : base ≤ wr.heap.size) (hL : l.length ≤ 1000000) (hM : m.length ≤ 1000000)
    (h : ∀ p c w', Hold k e enc ok ex w' base (.slice p (l ++ m).length c) (l ++ m) → Below base wr w' → w.grownBy w' v.ownBlock → K (a.put o.dst (.slice p (l ++ m).length c)) w') : o.wp Tryd.prog a w K Q := by
  obtain ⟨p, c, w', hr, h2, h3, h4⟩ := run_hold o.type hF hE hO hb hm hmo hbase hL hM
  unfold Oper.wp execOp
  simp only [ho, resolve, invoke, builtin, Sem.run_bind, Sem.run_pure, Result.andThen_ok, List.map_toArray, List.map_cons, List.map_nil, hs, hy, hr]
  exact h p c w' h2 h3 h4
theorem wpList_hold {w : World} {ops : Array Oper} {rest : List Oper} {o : Oper} {a : Act} {Q : Exit → Act → World → Prop} (hF : Fits t e k bytes z) (hE : Encs k enc) (hgd : o.guard = none) (s y : Operand) (ho : o.op = .call { callee := .builtin .append, args := #[s, y], argTypes := #[t, t] })
    (hs : a.eval s = v) (hy : a.eval y = x) (hO : Hold k e enc ok ex wr base v l) (hb : Below wr.heap.size wr w) (hm : IsRows k enc w x m) (hmo : ∀ u ∈ m, Off ok w (Ex v ex) u) (hbase : base ≤ wr.heap.size) (hL : l.length ≤ 1000000) (hM : m.length ≤ 1000000)
    (h : ∀ p c w', Hold k e enc ok ex w' base (.slice p (l ++ m).length c) (l ++ m) → Below base wr w' → w.grownBy w' v.ownBlock → wpList Tryd.prog ops Q rest (a.put o.dst (.slice p (l ++ m).length c)) w') : wpList Tryd.prog ops Q (o :: rest) a w :=
  wpList_plain hgd fun _ hK => wp_hold hF hE s y ho hs hy hO hb hm hmo hbase hL hM fun p c w' h1 h2 h3 => hK _ _ (h p c w' h1 h2 h3)
theorem step_hold {w : World} {ops : Array Oper} {o : Oper} {a : Act} {K : Act → World → Prop} {Q : Exit → Act → World → Prop} {E : Prop} (hF : Fits t e k bytes z) (hE : Encs k enc) (hw : Region.wanted o (yielded ops a.tmps) = true) (s y : Operand) (ho : o.op = .call { callee := .builtin .append, args := #[s, y], argTypes := #[t, t] })
    (hs : a.eval s = v) (hy : a.eval y = x) (hO : Hold k e enc ok ex wr base v l) (hb : Below wr.heap.size wr w) (hm : IsRows k enc w x m) (hmo : ∀ u ∈ m, Off ok w (Ex v ex) u) (hbase : base ≤ wr.heap.size) (hL : l.length ≤ 1000000) (hM : m.length ≤ 1000000)
    (h : ∀ p c w', Hold k e enc ok ex w' base (.slice p (l ++ m).length c) (l ++ m) → Below base wr w' → w.grownBy w' v.ownBlock → K (a.put o.dst (.slice p (l ++ m).length c)) w') : if Region.wanted o (yielded ops a.tmps) = true then Oper.wp Tryd.prog o a w K Q else E := by
  rw [if_pos hw]
  exact wp_hold hF hE s y ho hs hy hO hb hm hmo hbase hL hM h
end
theorem IsRows.agree {α : Type} {k : Nat} {enc : α → List Value} {w w' : World} {v : Value} {l : List α} {X : Nat → Prop} (h : IsRows k enc w v l) (hg : Agree X w w') (hne : ∀ b, v.ownBlock = some b → ¬ X b) : IsRows k enc w' v l := by
  obtain ⟨a, c, rfl, hr, hm⟩ := h
  refine ⟨a, c, rfl, ?_, hm⟩
  rcases hr with h | ⟨b, off, rfl, hc⟩
  · exact .inl h
  · exact .inr ⟨b, off, rfl, fun i x hi j u hj => hg.cell (hc i x hi j u hj) (hne b rfl)⟩
theorem IsSpans.agree {w w' : World} {v : Value} {l : List Sp} {X : Nat → Prop} (h : IsSpans w v l) (hg : Agree X w w') (hne : ∀ b, v.ownBlock = some b → ¬ X b) : IsSpans w' v l := IsSpans.of_rows (h.rows.agree hg hne)
theorem RowOk.vals {w : World} {r : RR} (h : RowOk w r) : IsVals w r.av r.t := h.1
theorem RowOk.spans {w : World} {r : RR} (h : RowOk w r) : IsSpans w r.wv r.s := h.2
theorem rowOk_keep (w w' : World) (x : RR) (h : Below w.heap.size w w') (k : RowOk w x) : RowOk w' x := k.keep h
/-- A row of new slices. -/
theorem row_fresh {w : World} {r : RR} {base : Nat} {X : Nat → Prop} (h : RowOk w r) (ha : Fresh base r.av) (hw : Fresh base r.wv) (hx : ∀ k, X k → k < base) : Off RowOk w X r := fun w' k =>
  ⟨IsRows.agree h.1 k fun b hb e => by have := ha b hb; have := hx b e; omega, h.2.agree k fun b hb e => by have := hw b hb; have := hx b e; omega⟩
theorem Owns.fresh {α : Type} {k : Nat} {e : TypeId} {enc : α → List Value} {w : World} {base : Nat} {v : Value} {l : List α} (h : Owns k e enc w base v l) : Fresh base v := fun b hb => (h.lt b hb).1
theorem Hold.rel {w : World} {base : Nat} {v : Value} {l : List RR} {ex : Nat → Prop} (h : Hold 2 44 encR RowOk ex w base v l) (hm : l.length ≤ 9223372036854775807) : IsRel w v l := ⟨h.1.is encsR hm, fun x hx => Off.here (h.2 x hx)⟩
/-! ### the sort -/
theorem St.of_owns {w0 w : World} {G n c : Nat} {l : List RR} (hO : Owns 2 44 encR w w0.heap.size (.slice (some ⟨G, 0, none⟩) n c) l) (hb : Below w0.heap.size w0 w) (hok : ∀ x ∈ l, RowOk w0 x) : St w0 G l.toArray w := by
  rcases hO.2 with ⟨e, _⟩ | ⟨g, cap, cur, e, hg, hh, hnc, _, hsz, htk⟩
  · cases e
  · injection e with e1 e2 e3
    injection e1 with e1
    injection e1 with e1
    subst e1
    have hget : ∀ i j u, i < l.length → j < 2 → (encR l[i]!)[j]? = some u → cur[i * 2 + j]? = some u := by
      intro i j u hi hj hu
      have h1 := flats_get l (fun x _ => encsR.len x) i l[i]! (by rw [List.getElem?_eq_getElem hi]; simp [hi]) j u hu
      rw [← htk, List.getElem?_take] at h1
      split at h1
      · simpa using h1
      · cases h1
    refine ⟨hb, hg, ⟨cur, hh, ?_, fun i hi => ?_⟩, fun i hi => ?_⟩
    · rw [hsz]; simp; omega
    · have hi : i < l.length := by simpa using hi
      have e : (l.toArray)[i]! = l[i]! := by simp
      rw [e]
      exact ⟨hget i 0 _ hi (by omega) rfl, hget i 1 _ hi (by omega) rfl⟩
    · have hi : i < l.length := by simpa using hi
      have e : (l.toArray)[i]! = l[i]! := by simp
      rw [e]
      exact hok _ (by simp [hi])
theorem St.rel {w0 w : World} {G c : Nat} {d : Array RR} (S : St w0 G d w) (h1 : d.size ≤ c) (h2 : c ≤ 9223372036854775807) : IsRel w (.slice (some ⟨G, 0, none⟩) d.size c) d.toList := by
  refine ⟨⟨_, c, rfl, .inr ⟨G, 0, rfl, fun i x hi j u hj => ?_⟩, by simp; omega, by simpa using h1, h2⟩, fun x hx => ?_⟩
  · have hlt : i < d.size := by have := (List.getElem?_eq_some_iff.1 hi).1; simpa using this
    obtain ⟨c0, c1⟩ := S.cells hlt
    have hx : d[i]! = x := by
      have : d[i]? = some x := by simpa using hi
      rw [getElem!_pos d i hlt]
      rw [Array.getElem?_eq_getElem hlt] at this
      injection this
    rw [hx] at c0 c1
    rcases j with _ | _ | j
    · obtain rfl : x.av = u := by simpa [encR] using hj
      simpa using c0
    · obtain rfl : x.wv = u := by simpa [encR] using hj
      simpa using c1
    · simp [encR] at hj
  · obtain ⟨i, hi, rfl⟩ := List.getElem_of_mem hx
    have hlt : i < d.size := by simpa using hi
    have := S.row hlt
    rw [getElem!_pos d i hlt] at this
    simpa using this
def SortedR (l : List RR) : Prop := l.Pairwise fun x y => cmpT x.t y.t ≤ 0
theorem sortedR_of {d : Array RR} (h : SortedIn ltR 0 d.size d) : SortedR d.toList := by
  unfold SortedR
  rw [List.pairwise_iff_getElem]
  intro i j hi hj hij
  have hj' : j < d.size := by simpa using hj
  have hi' : i < d.size := by omega
  have := h i j (Nat.zero_le _) hij hj'
  unfold ltR at this
  rw [getElem!_pos d i hi', getElem!_pos d j hj', decide_eq_false_iff_not] at this
  simp only [Array.getElem_toList]
  have := cmpT_is.anti (d[j]).t (d[i]).t
  omega
theorem perm_of_in {d d' : Array RR} (h : PermIn 0 d.size d d') : d'.toList.Perm d.toList := by
  obtain ⟨h1, _, h2⟩ := h
  have e1 : d'.extract 0 d.size = d' := by rw [← h1]; simp
  have e2 : d.extract 0 d.size = d := by simp
  rw [e1, e2] at h2
  exact h2
set_option maxRecDepth 100000 in
theorem insertion_nil (p : Option Addr) (c : Nat) (w : World) : Calls Tryd.prog 152 #[.slice p 0 c, .int .i64 0, .int .i64 0, .func (.func 73) #[] #[]] w fun e w' => e = .returned (.tuple #[]) ∧ w = w' := by
  go_enter Tryd.func152, Tryd.ntmps152
  go_wp2
  go_loopg [8] 0 (fun g vi wr => vi = .int .i64 1 ∧ w = wr)
  case atStart => exact ⟨rfl, rfl⟩
  case round =>
    obtain ⟨rfl, rfl⟩ := hrel
    go_wp2
    go_end0
    exact ⟨rfl, rfl⟩
set_option maxRecDepth 100000 in
theorem stable_nil (p : Option Addr) (c : Nat) (w : World) : Calls Tryd.prog 144 #[.slice p 0 c, .int .i64 0, .func (.func 73) #[] #[]] w fun e w' => e = .returned (.tuple #[]) ∧ w = w' := by
  go_enter Tryd.func144, Tryd.ntmps144
  go_wp2
  go_loopg [7, 8] 0 (fun g va vb wr => va = .int .i64 0 ∧ vb = .int .i64 20 ∧ w = wr)
  case atStart => exact ⟨rfl, rfl, rfl⟩
  case round =>
    obtain ⟨rfl, rfl, rfl⟩ := hrel
    go_wp2_with fail
    refine (insertion_nil p c _).mono ?_
    rintro e w1 ⟨rfl, rfl⟩
    go_wp2
    go_loopg [6] 0 (fun g va wr => va = .int .i64 20 ∧ w = wr)
    case atStart => exact ⟨rfl, rfl⟩
    case round =>
      obtain ⟨rfl, rfl⟩ := hrel
      go_wp2
      go_end0
      exact ⟨rfl, rfl⟩
theorem sort_any (w0 w : World) (u : Value) (l : List RR) (hO : Owns 2 44 encR w w0.heap.size u l) (hb : Below w0.heap.size w0 w) (hok : ∀ x ∈ l, RowOk w0 x) (hl : l.length ≤ 1000000) :
    Calls Tryd.prog 128 #[u, .func (.func 73) #[] #[]] w fun e w' => e = .returned (.tuple #[]) ∧ ∃ l', l'.Perm l ∧ SortedR l' ∧ IsRel w' u l' ∧ Below w0.heap.size w0 w' := by
  rcases hO.2 with ⟨rfl, e⟩ | ⟨g, cap, cur, rfl, _, _, hnc, hcm, _⟩
  · have hn : l = [] := List.eq_nil_of_length_eq_zero e
    subst hn
    go_enter Tryd.func128, Tryd.ntmps128
    go_wp2_with fail
    refine (stable_nil none 0 _).mono ?_
    rintro e w1 ⟨rfl, rfl⟩
    go_wp2
    go_end0
    exact ⟨rfl, [], List.Perm.refl _, List.Pairwise.nil, IsRel.nil _, hb⟩
  · have S := St.of_owns hO hb hok
    have hc : cap ≤ 9223372036854775807 := by unfold maxLen at hcm; omega
    clear hO hb hcm
    go_enter Tryd.func128, Tryd.ntmps128
    go_wp2_with fail
    refine (stable_any w0 g cap l.length hl l.toArray _ S (by simp)).mono ?_
    rintro e w1 ⟨rfl, d', S2, P, T⟩
    have hz : d'.size = l.length := by have := P.1; simpa using this
    have R := Lib.hid (show IsRel w1 (.slice (some ⟨g, 0, none⟩) l.length cap) d'.toList by have := S2.rel (c := cap) (by omega) hc; rwa [hz] at this)
    have PP := Lib.hid (show d'.toList.Perm l by have := perm_of_in (d := l.toArray) (d' := d') (by simpa using P); simpa using this)
    have TT := Lib.hid (sortedR_of (d := d') (by rw [hz]; exact T))
    have BB := S2.below
    clear P T S S2
    go_wp2
    go_end0
    exact ⟨rfl, _, PP.out, TT.out, R.out, BB⟩
end Go.Proofs.YtdibijhaiaiifaaDoor
/- The plain laws of canonical: the loop over a sorted list. -/
namespace Go.Proofs.YtdibijhaiaiifaaDoor
open Go.RowKit
/-- Rows few and small. -/
structure Sml (n : Nat) (xs : List RR) : Prop where
  len : xs.length ≤ n
  each : ∀ x ∈ xs, x.t.length ≤ 64 ∧ x.s.length ≤ 64
/-- Nothing that it reads lies before base. -/
def IsRelF (w : World) (base : Nat) (v : Value) (ys : List RR) : Prop := ∀ w', Agree (fun k => k < base) w w' → IsRel w' v ys
theorem IsRelF.rel {w : World} {base : Nat} {v : Value} {ys : List RR} (h : IsRelF w base v ys) : IsRel w v ys := h w (Agree.refl _ _)
theorem IsRelF.keep {w w' : World} {base : Nat} {v : Value} {ys : List RR} (h : IsRelF w base v ys) (hb : Below w.heap.size w w') : IsRelF w' base v ys := fun w2 h2 => h w2 ((Agree.of_below hb).trans h2)
theorem IsRelF.mono {w : World} {a b : Nat} {v : Value} {ys : List RR} (h : IsRelF w b v ys) (hab : a ≤ b) : IsRelF w a v ys := fun w2 h2 => h w2 (h2.mono fun _ hk => Nat.lt_of_lt_of_le hk hab)
theorem Hold.relF {w : World} {base n : Nat} {v : Value} {l : List RR} (h : Hold 2 44 encR RowOk (fun k => k < n) w base v l) (hn : n ≤ base) (hm : l.length ≤ 9223372036854775807) : IsRelF w n v l := fun _ hw => (h.agree hw fun _ hk => Nat.lt_of_lt_of_le hk hn).rel hm
structure CanOf (xs ys : List RR) : Prop where
  can : IsCan (rows ys)
  mom : ∀ t k, k < 64 → mom (rows ys) t k = mom (rows xs) t k
  sml : ∀ n, Sml n xs → Sml n ys
theorem Up_snoc {a : List Rw} {x : Rw} (h : Up a) (hx : ∀ y ∈ a, cmpT y.1 x.1 < 0) : Up (a ++ [x]) := by
  induction a with
  | nil => exact ⟨by simp, trivial⟩
  | cons y a ih =>
    refine ⟨fun z hz => ?_, ih h.2 fun z hz => hx z (by simp [hz])⟩
    rcases List.mem_append.1 hz with hz | hz
    · exact h.1 z hz
    · simp at hz; subst hz; exact hx y (by simp)
theorem mem_rows {l : List RR} {y : Rw} : y ∈ rows l ↔ ∃ x ∈ l, x.rw = y := by simp [rows]
theorem can_snoc {out : List RR} {r : RR} (h : IsCan (rows out)) (hx : ∀ y ∈ out, cmpT y.t r.t < 0) (hr : OkW r.s) : IsCan (rows (out ++ [r])) := by
  rw [rows_append]
  refine ⟨Up_snoc h.1 fun y hy => ?_, fun y hy => ?_⟩
  · obtain ⟨x, hx', rfl⟩ := mem_rows.1 hy
    exact hx x hx'
  · rcases List.mem_append.1 hy with hy | hy
    · exact h.2 y hy
    · obtain ⟨x, hx', rfl⟩ := mem_rows.1 hy
      simp at hx'; subst hx'; exact hr
theorem okW_canon {S : Nat → Bool} (h : canon S ≠ []) : OkW (canon S) := ⟨h, canon_again S⟩
theorem canon_none {S : Nat → Bool} (h : canon S = []) {k : Nat} (hk : k < 64) : S k = false := by
  rw [← setOf_canon S k hk, h]; rfl
structure CInv (L out : List RR) (i : Nat) : Prop where
  can : IsCan (rows out)
  mom : ∀ t k, k < 64 → mom (rows out) t k = mom (rows (L.take i)) t k
  lt : ∀ x ∈ out, ∀ y ∈ L.drop i, cmpT x.t y.t < 0
  len : out.length ≤ i
  each : (∀ x ∈ L, x.t.length ≤ 64 ∧ x.s.length ≤ 64) → ∀ x ∈ out, x.t.length ≤ 64 ∧ x.s.length ≤ 64
theorem CInv.start (L : List RR) : CInv L [] 0 := ⟨⟨trivial, by simp [rows]⟩, fun _ _ _ => by simp, by simp, Nat.le_refl _, by simp⟩
theorem CInv.done {L out xs : List RR} {i : Nat} (h : CInv L out i) (hi : i = L.length) (hp : L.Perm xs) : CanOf xs out := by
  refine ⟨h.can, fun t k hk => ?_, fun n hs => ⟨?_, h.each fun x hx => hs.each x (hp.mem_iff.1 hx)⟩⟩
  · rw [h.mom t k hk, hi, List.take_length]
    exact mom_perm (hp.map _) t k
  · have := h.len; have := hs.len; have := hp.length_eq; omega
structure WInv (L : List RR) (t : Tp) (i k : Nat) (W : List Sp) : Prop where
  le : i ≤ k
  same : ∀ y ∈ (L.drop i).take (k - i), y.t = t
  set : ∀ j, setOf W j = mom (rows ((L.drop i).take (k - i))) t j
  len : (∀ x ∈ L, x.t.length ≤ 64 ∧ x.s.length ≤ 64) → W.length ≤ (k - i) * 64
theorem WInv.start (L : List RR) (t : Tp) (i : Nat) : WInv L t i i [] := ⟨Nat.le_refl _, by simp, fun j => by simp; rfl, by simp⟩
theorem setOf_cat (a b : List Sp) (k : Nat) : setOf (a ++ b) k = (setOf a k || setOf b k) := by simp [setOf, has, List.any_append]
theorem WInv.step {L : List RR} {t : Tp} {i k : Nat} {W : List Sp} (h : WInv L t i k W) {x : RR} (hx : L[k]? = some x) (he : cmpT t x.t = 0) : WInv L t i (k + 1) (W ++ x.s) := by
  have ht := (cmpT_is.eq _ _).1 he
  have hle := h.le
  have e : (L.drop i).take (k + 1 - i) = (L.drop i).take (k - i) ++ [x] := by
    rw [show k + 1 - i = (k - i) + 1 by omega, List.take_add_one, List.getElem?_drop, show i + (k - i) = k by omega, hx]
    rfl
  refine ⟨by omega, ?_, fun j => ?_, fun hs => ?_⟩
  · rw [e]
    intro y hy
    rcases List.mem_append.1 hy with hy | hy
    · exact h.same y hy
    · simp at hy; subst hy; exact ht.symm
  · rw [setOf_cat, e, rows_append, mom_append, h.set j]
    congr 1
    show _ = ((decide (x.t = t) && setOf x.s j) || false)
    rw [decide_eq_true ht.symm, Bool.true_and, Bool.or_false]
  · have h1 := h.len hs
    have h2 := (hs x (List.mem_of_getElem? hx)).2
    rw [List.length_append, show k + 1 - i = (k - i) + 1 by omega, Nat.add_mul]
    omega
theorem mom_same {P : List RR} {t t' : Tp} (h : ∀ y ∈ P, y.t = t) (hne : t ≠ t') (j : Nat) : mom (rows P) t' j = false := by
  unfold mom
  rw [List.any_eq_false]
  intro y hy
  obtain ⟨x, hx, rfl⟩ := mem_rows.1 hy
  have : x.rw.1 ≠ t' := by rw [show x.rw.1 = x.t from rfl, h x hx]; exact hne
  simp [this]
theorem take_split {L : List RR} {i k : Nat} (h : i ≤ k) : L.take k = L.take i ++ (L.drop i).take (k - i) := by
  have := List.take_add (l := L) (i := i) (j := k - i)
  rwa [show i + (k - i) = k by omega] at this
theorem drop_mem {L : List RR} {i k : Nat} (h : i ≤ k) {y : RR} (hy : y ∈ L.drop k) : y ∈ L.drop i := by
  have e : L.drop k = (L.drop i).drop (k - i) := by rw [List.drop_drop]; congr 1; omega
  rw [e] at hy
  exact List.mem_of_mem_drop hy
section
variable {L out : List RR} {i k : Nat} {W : List Sp} {r : RR}
theorem CInv.skip (h : CInv L out i) (hw : WInv L r.t i k W) (h0 : canon (setOf W) = []) : CInv L out k := by
  have hle := hw.le
  refine ⟨h.can, fun t j hj => ?_, fun x hx y hy => h.lt x hx y (drop_mem hw.le hy), by have := h.len; omega, h.each⟩
  rw [take_split hw.le, rows_append, mom_append, h.mom t j hj]
  by_cases e : r.t = t
  · subst e
    rw [← hw.set j, canon_none h0 hj, Bool.or_false]
  · rw [mom_same hw.same e, Bool.or_false]
theorem CInv.put (hs : SortedR L) (h : CInv L out i) (hi : L[i]? = some r) (hw : WInv L r.t i k W) (hik : i < k) (hend : ∀ x, L[k]? = some x → ¬ cmpT r.t x.t = 0) (h0 : canon (setOf W) ≠ []) {q : RR} (hq : q.t = r.t) (hqs : q.s = canon (setOf W)) : CInv L (out ++ [q]) k := by
  have hle := hw.le
  have hri : r ∈ L.drop i := by
    refine List.mem_of_getElem? (i := 0) ?_
    rw [List.getElem?_drop]; exact hi
  refine ⟨can_snoc h.can (fun y hy => by rw [hq]; exact h.lt y hy r hri) (by rw [hqs]; exact okW_canon h0), fun t j hj => ?_, fun x hx y hy => ?_, ?_, fun hx y hy => ?_⟩
  · rw [rows_append, mom_append, take_split hw.le, rows_append, mom_append, h.mom t j hj]
    congr 1
    show ((decide (q.t = t) && setOf q.s j) || false) = _
    rw [Bool.or_false, hq, hqs, setOf_canon _ _ hj]
    by_cases e : r.t = t
    · subst e
      rw [decide_eq_true rfl, Bool.true_and, hw.set j]
    · rw [mom_same hw.same e, decide_eq_false e, Bool.false_and]
  · rcases List.mem_append.1 hx with hx | hx
    · exact h.lt x hx y (drop_mem hw.le hy)
    · simp at hx; subst hx
      rw [hq]
      obtain ⟨j, hj⟩ := List.getElem?_of_mem hy
      rw [List.getElem?_drop] at hj
      have hkj := (List.getElem?_eq_some_iff.1 hj).1
      have hk : k < L.length := by omega
      have hkx := List.getElem?_eq_getElem hk
      have hne := hend _ hkx
      have p := List.pairwise_iff_getElem.1 hs
      obtain ⟨hil, hie⟩ := List.getElem?_eq_some_iff.1 hi
      have p1 := p i k hil hk hik
      rw [hie] at p1
      have p1' : cmpT r.t L[k].t < 0 := by omega
      cases j with
      | zero =>
        rw [Nat.add_zero, hkx] at hj
        cases hj; exact p1'
      | succ j =>
        obtain ⟨hjl, hje⟩ := List.getElem?_eq_some_iff.1 hj
        have p2 := p k (k + (j + 1)) hk hjl (by omega)
        rw [hje] at p2
        exact cmpT_is.lt_le p1' p2
  · have := h.len; simp; omega
  · rcases List.mem_append.1 hy with hy | hy
    · exact h.each hx y hy
    · simp at hy; subst hy
      rw [hq, hqs]
      exact ⟨(hx r (List.mem_of_getElem? hi)).1, Nat.le_trans (canon_le _) (by omega)⟩
theorem WInv.more (hw : WInv L r.t i k W) (hi : L[i]? = some r) (hend : k = L.length ∨ ∀ x, L[k]? = some x → ¬ cmpT r.t x.t = 0) : i < k := by
  rcases Nat.lt_or_eq_of_le hw.le with h | h
  · exact h
  · subst h
    rcases hend with h | h
    · have := (List.getElem?_eq_some_iff.1 hi).1; omega
    · exact absurd (cmpT_is.refl _) (h r hi)
end
end Go.Proofs.YtdibijhaiaiifaaDoor
/- The walk of canonical. -/
namespace Go.Proofs.YtdibijhaiaiifaaDoor
open Go.RowKit
theorem getElem_of_lt {α : Type} {l : List α} {i : Nat} (h : i < l.length) : ∃ x, l[i]? = some x := ⟨_, List.getElem?_eq_getElem h⟩
set_option maxHeartbeats 4000000 in
set_option maxRecDepth 1000000 in
theorem canonical_any (v : Value) (xs : List RR) (w : World) (hT : Tab w) (h : IsRel w v xs) (hs : Sml 10000 xs) :
    Calls Tryd.prog 87 #[v] w fun e w' => ∃ u, e = .returned u ∧ ∃ ys, IsRelF w' w.heap.size u ys ∧ CanOf xs ys ∧ Below w.heap.size w w' := by
  have HS := Lib.hid hs
  have hl : xs.length ≤ 1000000 := by have := hs.len; omega
  have hok := h.2
  clear hs
  go_enter Tryd.func87, Tryd.ntmps87
  go_wp2_with fail
  refine (CloneR_any v xs _ h.1 hl).mono ?_
  rintro e w1 ⟨u, rfl, hO, hB⟩
  go_wp2_with fail
  refine (sort_any w w1 u xs hO hB hok hl).mono ?_
  rintro e w2 ⟨rfl, L, P, T, R, B2⟩
  have HP := Lib.hid P
  have HT := Lib.hid T
  have HE : Hid (∀ x ∈ L, x.t.length ≤ 64 ∧ x.s.length ≤ 64) := Lib.hid fun x hx => HS.out.each x (P.mem_iff.1 hx)
  have hLn : L.length ≤ 10000 := by have := P.length_eq; have := HS.out.len; omega
  have hT2 := hT.keep B2
  obtain ⟨pa, pc, rfl, -⟩ := R.shape
  clear hO hB hok h P T hl hT
  go_wp2
  go_loopg [4, 5] L.length (fun g v4 vi wr => ∃ (i : Nat) (out : List RR), vi = .int .i64 i ∧ i ≤ L.length ∧ L.length - i ≤ g ∧ Hid (CInv L out i) ∧ Hold 2 44 encR RowOk (fun k => k < w.heap.size) wr w2.heap.size v4 out ∧ Below w2.heap.size w2 wr)
  case atStart => exact ⟨0, [], rfl, by omega, by omega, Lib.hid (CInv.start L), Hold.nil _ _, Below.refl _ _⟩
  case round =>
    obtain ⟨i, out, rfl, hi, hg, C, H4, Br⟩ := hrel
    by_cases hlt : i < L.length
    · have hltz : (i : Int) < (L.length : Int) := by omega
      obtain ⟨r, hr⟩ := getElem_of_lt hlt
      obtain ⟨b, off, rfl, -⟩ := R.at_ hr
      have HR := Lib.hid hr
      clear hr
      obtain ⟨w3, hw3⟩ : ∃ x, x = wr := ⟨_, rfl⟩
      rw [← hw3] at H4 Br
      obtain ⟨p4, c4, rfl⟩ := H4.form
      go_wp2
      go_loopg [6, 7] (L.length + 1) (fun g v6 vk wq => ∃ (k : Nat) (W : List Sp), vk = .int .i64 k ∧ k ≤ L.length ∧ L.length + 1 - k ≤ g ∧ Hid (WInv L r.t i k W) ∧ Owns 2 86 encSp wq w3.heap.size v6 W ∧ Below w3.heap.size w3 wq)
      case atStart => exact ⟨i, [], rfl, by omega, by omega, Lib.hid (WInv.start L r.t i), Owns.nil _ _, by rw [hw3]; exact Below.refl _ _⟩
      case round =>
        clear hw3
        obtain ⟨k, W, rfl, hk, hg2, V, H6, Bq⟩ := hrel
        obtain ⟨q, HQ⟩ : ∃ q : Bool, Hid (q = true ↔ ∃ y, L[k]? = some y ∧ cmpT r.t y.t = 0) := ⟨decide (∃ y, L[k]? = some y ∧ cmpT r.t y.t = 0), Lib.hid (by simp)⟩
        have Rq := R.keep (below_trans Br (Bq.mono (Nat.le_refl _)))
        go_upto_region 8 with fail
        go_cut [32] from 17 to 32 (fun v32 wx => v32 = .bool q ∧ Grew wr wx)
        case first =>
          obtain ⟨b1, o1, e1, c0, c1, rx⟩ := Rq.at_ HR.out
          cases e1
          replace c0 := After.cell c0
          replace c1 := After.cell c1
          by_cases hk2 : k < L.length
          · have hkz : (k : Int) < (L.length : Int) := by omega
            obtain ⟨y, hy⟩ := getElem_of_lt hk2
            obtain ⟨b2, o2, e2, d0, d1, ry⟩ := Rq.at_ hy
            cases e2
            replace d0 := After.cell d0
            replace d1 := After.cell d1
            obtain ⟨z, hz⟩ : ∃ z, cmpT r.t y.t = z := ⟨_, rfl⟩
            have HQ2 : Hid (q = (z == 0)) := Lib.hid (by
              rw [Bool.eq_iff_iff, HQ.out, hy, beq_iff_eq, ← hz]
              exact ⟨fun ⟨y', e, h⟩ => by cases e; exact h, fun h => ⟨y, rfl, h⟩⟩)
            clear hy
            refine wp_region_after (by kernel_rfl) (by kernel_rfl) ?_
            repeat (quiet_step ((go_at_call 73; exact byArgs_after rx ry _)))
            refine wpQuiet_nil ?_
            intro w5 hg5
            clear c0 c1 d0 d1
            rw [← HQ2.out]
            go_wp2
            go_meet
            case rel => exact ⟨rfl, hg5⟩
          · have hkz : ¬ (k : Int) < (L.length : Int) := by omega
            have hqf : q = false := by
              cases q with
              | false => rfl
              | true => obtain ⟨y, hy, _⟩ := HQ.out.1 rfl; have := (List.getElem?_eq_some_iff.1 hy).1; omega
            subst hqf
            clear c0 c1 rx
            go_region
            go_wp2
            go_meet
            case rel => exact ⟨rfl, (Grew.refl _).drew⟩
        case rest =>
          obtain ⟨rfl, gq⟩ := hcut
          replace Rq := Rq.keep gq.below
          replace H6 := H6.keep gq.below
          replace Bq := Bq.trans (gq.below.mono Bq.size)
          clear gq
          obtain ⟨p6, c6, rfl⟩ := H6.form
          cases q
          · have HEND : Hid (∀ x, L[k]? = some x → ¬ cmpT r.t x.t = 0) := Lib.hid fun x hx he => by have := HQ.out.2 ⟨x, hx, he⟩; cases this
            have hik : i < k := V.out.more HR.out (.inr HEND.out)
            have hW : W.length ≤ 1000000 := by have := V.out.len HE.out; omega
            have h6 := IsSpans.of_rows (H6.is encsS (by omega))
            have hTq := (hT2.keep Br).keep Bq
            go_wp2_with fail
            refine (Of_any _ W _ hTq h6).mono ?_
            rintro e w5 ⟨u5, rfl, ⟨h5, f5⟩, B5⟩
            obtain ⟨S, hS⟩ : ∃ S, Hid (canon (setOf W) = S) := ⟨_, Lib.hid rfl⟩
            rw [hS.out] at h5
            obtain ⟨p5, c5, rfl, h5⟩ := h5
            have hSl : S.length ≤ 32 := by rw [← hS.out]; exact canon_le _
            have R5 := Rq.keep B5
            have F5 := f5
            have Z5 := B5.size
            replace B5 := Bq.trans (B5.mono Bq.size)
            by_cases hS0 : S.length = 0
            · have CN := Lib.hid (C.out.skip V.out (by rw [hS.out]; exact List.eq_nil_of_length_eq_zero hS0))
              have hSz : ¬ (0 : Int) < (S.length : Int) := by omega
              go_wp2
              go_roundg (L.length - k)
              case measure => omega
              case rel => exact ⟨k, out, rfl, hk, Nat.le_refl _, CN, H4.keep B5, Br.trans (B5.mono Br.size)⟩
            · have hSz : (0 : Int) < (S.length : Int) := by omega
              obtain ⟨b1, o1, e1, c0, -, rx⟩ := R5.at_ HR.out
              cases e1
              have hrl := (HE.out r (List.mem_of_getElem? HR.out)).1
              go_wp2_with fail
              refine (CloneV_any _ r.t _ rx.1 (by omega)).mono ?_
              rintro e w6 ⟨u7, rfl, h7, B6⟩
              obtain ⟨p7, c7, rfl⟩ := h7.form
              have hq : RowOk w6 ⟨p7, c7, r.t, p5, c5, S⟩ := ⟨h7.is encsV (by omega), IsSpans.keep ⟨p5, c5, rfl, h5⟩ B6⟩
              have hm : IsRows 2 encR (w6.alloc (.cells #[.slice p7 r.t.length c7, .slice p5 S.length c5] 44)) (.slice (some ⟨w6.heap.size, 0, none⟩) 1 1) [⟨p7, c7, r.t, p5, c5, S⟩] := IsRows.lit w6 [_] encsR (by simp)
              have B7 := B5.trans (B6.mono B5.size)
              have B8 := B7.alloc B7.size (.cells #[.slice p7 r.t.length c7, .slice p5 S.length c5] 44)
              have hmo : ∀ u ∈ [(⟨p7, c7, r.t, p5, c5, S⟩ : RR)], Off RowOk (w6.alloc (.cells #[.slice p7 r.t.length c7, .slice p5 S.length c5] 44)) (Ex (.slice p4 out.length c4) (fun k => k < w.heap.size)) u := by
                intro u hu
                simp at hu
                subst hu
                have hq2 := hq.keep (below_new w6 (.cells #[.slice p7 r.t.length c7, .slice p5 S.length c5] 44))
                refine row_fresh (base := w3.heap.size) hq2 (Fresh.mono h7.fresh (Nat.le_trans Bq.size Z5)) (F5.mono Bq.size) fun k hk => ?_
                rcases hk with hk | hk
                · exact (H4.1.lt k hk).2
                · exact Nat.lt_of_lt_of_le hk (Nat.le_trans B2.size Br.size)
              have CN := Lib.hid (CInv.put (q := ⟨p7, c7, r.t, p5, c5, S⟩) HT.out C.out HR.out V.out hik HEND.out (by rw [hS.out]; intro e; rw [e] at hS0; exact hS0 rfl) rfl hS.out.symm)
              have hol : out.length ≤ 1000000 := by have := C.out.len; omega
              go_wp2_with (at_builtin; refine wpList_hold fitsR24 encsR rfl _ _ rfl rfl rfl H4 B8 hm hmo Br.size hol (by simp) ?_; intro p9 c9 w9 H9 B9 hG9)
              go_roundg (L.length - k)
              case measure => omega
              case rel => exact ⟨k, _, rfl, hk, Nat.le_refl _, CN, by rw [List.length_append] at H9; exact H9, Br.trans B9⟩
          · obtain ⟨y, hy, hcy⟩ := HQ.out.1 rfl
            have hk2 : k < L.length := (List.getElem?_eq_some_iff.1 hy).1
            have hkz : (k : Int) < (L.length : Int) := by omega
            obtain ⟨b1, o1, e1, -, c1, ry⟩ := Rq.at_ hy
            cases e1
            have VN := Lib.hid (V.out.step hy hcy)
            have hyl := (HE.out y (List.mem_of_getElem? hy)).2
            have hWl : W.length ≤ 1000000 := by have := V.out.len HE.out; omega
            have hys := ry.2.rows
            clear hy hcy
            go_wp2_with (at_builtin; refine wpList_cat fitsS encsS rfl _ _ rfl rfl rfl H6 (Below.refl _ _) hys Bq.size hWl (by omega) ?_; intro p1 c1 w7 hO hB hG)
            go_roundg (L.length + 1 - (k + 1))
            case measure => omega
            case rel => exact ⟨k + 1, _, by go_num, hk2, Nat.le_refl _, VN, by rw [List.length_append] at hO; exact hO, Bq.trans hB⟩
    · have hltz : ¬ (i : Int) < (L.length : Int) := by omega
      have RES := Lib.hid (C.out.done (by omega) HP.out)
      have hol : out.length ≤ 1000000 := by have := C.out.len; omega
      go_wp2
      go_ret
      exact ⟨_, rfl, out, H4.relF B2.size (by omega), RES.out, B2.trans (Br.mono B2.size)⟩
end Go.Proofs.YtdibijhaiaiifaaDoor
/- A range over a function that changes boxes of its own: the caller's rounds all go on. -/
namespace Go.Proofs.YtdibijhaiaiifaaDoor
open Go.RowKit Go.Shelf
/-- The iterator's promise: what has come; X: the blocks that it changes; Ok: what it gives. -/
def SeqBox {α : Type} (F : Fence) (n : Nat) (P : Program) (g : Nat) (lb : Array Value) (encs : α → Array Value) (Ok : α → Prop) (X : Nat → Prop) (Kp : World → World → Prop) (S : List α → Prop) (N : Nat) (w : World) : Prop :=
  ∀ (l : Nat) (J : List α → World → Prop) (W : World), Below w.heap.size w W → (∀ s A B, J s A → Agree X A B → J s B) →
    (∀ pre x A, Ok x → J pre A → pre.length < N → YieldAt F (n - 1) P l (encs x) A fun e B => e = .returned (.bool true) ∧ J (pre ++ [x]) B ∧ Kp A B) →
    J [] W → CallsIn F n P g (#[.func (.yield l) #[] #[]] ++ lb) W fun e B => (∃ v, e = .returned v) ∧ ∃ xs, S xs ∧ J xs B
/-- The two blocks of book-keeping: the record, and the block of deferred calls before it. -/
structure Books (b : Nat) (r : Loop) (W : World) : Prop where
  lp : W.heap[b + 1]? = some (.loop r)
  df : W.heap[b]? = some (.deferred (some []))
theorem Books.agree {b : Nat} {r : Loop} {A B : World} {X : Nat → Prop} (h : Books b r A) (hg : Agree X A B) (hx : ∀ k, X k → k < b) : Books b r B :=
  ⟨(hg.block _ (Array.getElem?_eq_some_iff.1 h.lp).1 fun e => by have := hx _ e; omega).trans h.lp, (hg.block _ (Array.getElem?_eq_some_iff.1 h.df).1 fun e => by have := hx _ e; omega).trans h.df⟩
theorem Books.kept {b : Nat} {r : Loop} {A B : World} (h : Books b r A) (hk : KeepsFrom b A B) : Books b r B :=
  ⟨hk.same _ _ (by omega) h.lp rfl, hk.same _ _ (Nat.le_refl _) h.df rfl⟩
theorem Books.turn {b : Nat} {r : Loop} {A : World} (h : Books b r A) (q : Loop) : Books b q (A.putObj (b + 1) (.loop q)) :=
  ⟨World.putObj_heap_same (Array.getElem?_eq_some_iff.1 h.lp).1, (World.putObj_heap_other (by omega)).trans h.df⟩
theorem Books.start (w : World) (r : Loop) : Books w.heap.size r ((w.alloc (.deferred (some []))).alloc (.loop r)) := by
  constructor
  · have := World.alloc_heap_new (w.alloc (.deferred (some []))) (.loop r)
    rwa [World.size_alloc] at this
  · exact (Below.heap_alloc _ _ _ (by simp)).trans (World.alloc_heap_new w _)
theorem Agree.putObj {X : Nat → Prop} (A : World) {l : Nat} (hx : X l) (o : Obj) : Agree X A (A.putObj l o) := by
  have h := grownBy_putObj' A l o
  exact ⟨h.os, h.tape, h.output, h.size, fun k hk hn => h.block k hk fun e => hn (by injection e with e; rw [e]; exact hx)⟩
theorem range_box {α : Type} {F : Fence} {n : Nat} {P : Program} {g : Operand} {ps : Array Tmp} {assign body : Code} {Q : Exit → Act → World → Prop} {a : Act} {w : World}
    (hro : F.round = none) (h1 : 1 ≤ n) {gf : Nat} {lb : Array Value} (hg : a.eval g = .func (.func gf) #[] lb) (hFg : F.fn gf) (eg : ∀ args w, (callFunc gf args).run P w = .ok (.enter gf args) w)
    {encs : α → Array Value} {Ok : α → Prop} {X : Nat → Prop} {Kp : World → World → Prop} {S : List α → Prop} {N : Nat} {w0 : World} (hseq : SeqBox F (n - 1) P gf lb encs Ok X Kp S N w0)
    (hX : ∀ k, X k → k < w.heap.size)
    (hKt : ∀ {A B C : World}, Kp A B → Kp B C → Kp A C) (hKb : ∀ (W : World) (l : Nat) (o o' : Obj), w.heap.size ≤ l → W.heap[l]? = some o → o.isCells = false → o.isWalk = false → Kp W (W.putObj l o'))
    (hb0 : Below w0.heap.size w0 w) (hps : ∀ x, (encs x).size = ps.size)
    (I : List α → World → Prop) (hI : ∀ s A B, I s A → Agree (fun k => X k ∨ k = w.heap.size ∨ k = w.heap.size + 1) A B → I s B) (h0 : I [] w) (Ax : α → Act → World → Prop) (hAx : ∀ x a' A B, Ax x a' A → Agree (fun k => k = w.heap.size ∨ k = w.heap.size + 1) A B → Ax x a' B)
    (hassign : ∀ (l : Nat) (pre : List α) (x : α) (W : World) (K : Act → World → Prop), Ok x → w.heap.size + 2 ≤ W.heap.size → I pre W → (∀ a' W', KeepsFrom w.heap.size W W' → Kp W W' → I pre W' → Ax x a' W' → K a' W') → assign.wpIn (F.inRound l) (n - 1 - 1) P (Exit.then K (fun _ _ _ => False)) { tmps := (ps.zip (encs x)).foldl (fun t (p, v) => t.setIfInBounds p v) a.tmps, defers := [] } W)
    (hbody : ∀ (l : Nat) (pre : List α) (x : α) (a' : Act) (W : World), w.heap.size ≤ l → Ok x → I pre W → Ax x a' W → pre.length < N → body.wpIn (F.inRound l) (n - 1 - 1) P (fun e _ B => e = .normal ∧ KeepsFrom w.heap.size W B ∧ Kp W B ∧ I (pre ++ [x]) B) a' W)
    (hdone : ∀ (xs : List α) (W : World), S xs → I xs W → W.heap[w.heap.size]? = some (.deferred (some [])) → Q .normal { a with defers := { target := .collected w.heap.size, args := #[] } :: a.defers } W) :
    (Code.rangeFunc g ps assign body).wpIn F n P Q a w := by
  refine wpIn_rangeFunc fun fn hfn => ?_
  rw [hro]
  obtain ⟨r, hr⟩ : ∃ r : Loop, r = { state := .ready, pending := none, fn, tmps := a.tmps, params := ps, assign, body, defers := w.heap.size } := ⟨_, rfl⟩
  have hB := Books.start w r
  have hW := ((Below.refl w.heap.size w).alloc (Nat.le_refl _) (.deferred (some []))).alloc (by simp) (.loop r)
  have hIW : I [] ((w.alloc (.deferred (some []))).alloc (.loop r)) := hI _ _ _ (hI _ _ _ h0 (.of_below (below_new _ _))) (.of_below (below_new _ _))
  generalize hX2 : (w.alloc (.deferred (some []))).alloc (.loop r) = X2 at hB hW hIW
  refine ⟨w.heap.size + 1, [{ target := .collected w.heap.size, args := #[] }], X2, { target := .fn (.func gf) lb, args := #[.func (.yield (w.heap.size + 1)) #[] #[]] }, X2, gf, #[.func (.yield (w.heap.size + 1)) #[] #[]] ++ lb, X2, ?_, ?_, ?_, ?_, fun _ => h1, ?_⟩
  · rw [← hX2, hr]; exact run_enterLoop_outer _ _ _ _ _
  · simp only [resolve, hg]; simp [go_sem]
  · intro f' hf'; simp [Target.leads] at hf'; subst hf'; exact hFg
  · simp [invoke, go_sem, eg]
  refine (hseq (w.heap.size + 1) (fun pre W => I pre W ∧ Books w.heap.size r W) X2 (hb0.trans (hW.mono hb0.size)) (fun s A B h hgr => ⟨hI s A B h.1 (hgr.mono fun _ h => .inl h), h.2.agree hgr hX⟩) (fun pre x A hok h hN => ?_) ⟨hIW, hB⟩).mono ?_
  · obtain ⟨hi, hk⟩ := h
    have hy := run_yield (P := P) (args := encs x) hk.lp (by rw [hr]; exact hps x)
    rw [hr] at hy
    refine ⟨fn, _, assign, body, hy, roundIn_of_wpIn hfn (hassign _ pre x A _ hok (by have := block_lt hk.lp; omega) hi ?_)⟩
    intro a' A2 hka hpa hia hax
    have hk2 := hk.kept hka
    refine ⟨_, run_beginRound hk2.lp (by rw [hr]), ?_⟩
    have ht := hk2.turn { r with state := .busy }
    have hi2 := hI _ _ _ hia (Agree.putObj (l := w.heap.size + 1) A2 (.inr (.inr rfl)) (.loop { r with state := .busy }))
    have hx2 := hAx x a' _ _ hax (Agree.putObj (l := w.heap.size + 1) A2 (.inr rfl) (.loop { r with state := .busy }))
    have hp1 : Kp A (A2.putObj (w.heap.size + 1) (.loop { r with state := .busy })) := hKt hpa (hKb _ _ _ _ (by omega) hk2.lp rfl rfl)
    refine wpIn_mono (hbody (w.heap.size + 1) pre x a' _ (by omega) hok hi2 hx2 hN) ?_
    rintro e a3 B ⟨rfl, hkf, hkp, hi3⟩
    have hkB := ht.kept hkf
    have he := run_endRound (P := P) none hkB.lp
    refine ⟨_, _, he, rfl, ⟨hI _ _ _ hi3 (Agree.putObj (l := w.heap.size + 1) B (.inr (.inr rfl)) _), ?_⟩, hKt hp1 (hKt hkp (hKb _ _ _ _ (by omega) hkB.lp rfl rfl))⟩
    have := hkB.turn r
    rw [hr] at this ⊢
    exact this
  · rintro e B ⟨⟨v, rfl⟩, xs, hs, hi, hk⟩
    subst hr
    exact ⟨none, _, run_endLoop (P := P) hk.lp (by simp), hdone xs _ hs (hI _ _ _ hi (Agree.putObj (l := w.heap.size + 1) B (.inr (.inr rfl)) _)) ((World.putObj_heap_other (by omega)).trans hk.df)⟩
theorem wpListIn_hold {α : Type} {ok : World → α → Prop} {k bytes : Nat} {t e : TypeId} {z : Value} {enc : α → List Value} {wr w : World} {base : Nat} {v x : Value} {l m : List α} {ex : Nat → Prop} {F : Fence} {nF : Nat} {ops : Array Oper} {rest : List Oper} {o : Oper} {a : Act} {Q : Exit → Act → World → Prop} (hF : Fits t e k bytes z) (hE : Encs k enc) (hgd : o.guard = none) (s y : Operand) (ho : o.op = .call { callee := .builtin .append, args := #[s, y], argTypes := #[t, t] })
    (hs : a.eval s = v) (hy : a.eval y = x) (hO : Hold k e enc ok ex wr base v l) (hb : Below wr.heap.size wr w) (hm : IsRows k enc w x m) (hmo : ∀ u ∈ m, Off ok w (Ex v ex) u) (hbase : base ≤ wr.heap.size) (hL : l.length ≤ 1000000) (hM : m.length ≤ 1000000)
    (h : ∀ p c w', Hold k e enc ok ex w' base (.slice p (l ++ m).length c) (l ++ m) → Below base wr w' → w.grownBy w' v.ownBlock → wpListIn F nF Tryd.prog ops Q rest (a.put o.dst (.slice p (l ++ m).length c)) w') : wpListIn F nF Tryd.prog ops Q (o :: rest) a w := by
  refine wpListIn_plain hgd fun K hK => ?_
  obtain ⟨p, c, w', hr, h2, h3, h4⟩ := run_hold o.type hF hE hO hb hm hmo hbase hL hM
  unfold Oper.wpIn
  refine ⟨by simp [Oper.about, ho, resolve, Target.leads, Sem.run_pure], ?_⟩
  rw [Oper.semAt_plain F _ _ (by rw [ho]; intro c hc'; cases hc')]
  simp only [execOp, ho, resolve, invoke, builtin, Sem.run_bind, Sem.run_pure, Result.andThen_ok, List.map_toArray, List.map_cons, List.map_nil, hs, hy, hr]
  exact hK _ _ (h p c w' h2 h3 h4)
/-! ### the pairs of two relations -/
def argsRow (y : RR) : RR := ⟨y.pa, y.ca, y.t, none, 0, []⟩
/-- What pairs yields. -/
def pairsL : List RR → List RR → List (RR × RR)
  | [], [] => []
  | x :: a, [] => (x, noRow) :: pairsL a []
  | [], y :: b => (argsRow y, y) :: pairsL [] b
  | x :: a, y :: b => if cmpT x.t y.t < 0 then (x, noRow) :: pairsL a (y :: b) else if cmpT x.t y.t = 0 then (x, y) :: pairsL a b else (argsRow y, y) :: pairsL (x :: a) b
termination_by a b => a.length + b.length
theorem pairs_nil : pairsL [] [] = [] := by rw [pairsL]
theorem pairs_left (x : RR) (a : List RR) : pairsL (x :: a) [] = (x, noRow) :: pairsL a [] := by rw [pairsL]
theorem pairs_right (y : RR) (b : List RR) : pairsL [] (y :: b) = (argsRow y, y) :: pairsL [] b := by rw [pairsL]
theorem pairs_lt {x y : RR} {a b : List RR} (h : cmpT x.t y.t < 0) : pairsL (x :: a) (y :: b) = (x, noRow) :: pairsL a (y :: b) := by rw [pairsL, if_pos h]
theorem pairs_eq {x y : RR} {a b : List RR} (h : cmpT x.t y.t = 0) : pairsL (x :: a) (y :: b) = (x, y) :: pairsL a b := by rw [pairsL, if_neg (by omega), if_pos h]
theorem pairs_gt {x y : RR} {a b : List RR} (h : 0 < cmpT x.t y.t) : pairsL (x :: a) (y :: b) = (argsRow y, y) :: pairsL (x :: a) b := by rw [pairsL, if_neg (by omega), if_neg (by omega)]
end Go.Proofs.YtdibijhaiaiifaaDoor
/- The plain laws of combine: what it makes of the pairs. -/
namespace Go.Proofs.YtdibijhaiaiifaaDoor
/-- What combine makes of one pair. -/
def comb1 (op : Bool → Bool → Bool) (p : RR × RR) : List Rw := if canon (fun k => op (setOf p.1.s k) (setOf p.2.s k)) = [] then [] else [(p.1.t, canon fun k => op (setOf p.1.s k) (setOf p.2.s k))]
def combL (op : Bool → Bool → Bool) (l : List (RR × RR)) : List Rw := l.flatMap (comb1 op)
theorem combL_append (op : Bool → Bool → Bool) (a : List (RR × RR)) (p : RR × RR) : combL op (a ++ [p]) = combL op a ++ comb1 op p := by simp [combL]
section
variable {op : Bool → Bool → Bool}
theorem mom_comb1 (p : RR × RR) (t : Tp) {k : Nat} (hk : k < 64) : mom (comb1 op p) t k = (decide (p.1.t = t) && op (setOf p.1.s k) (setOf p.2.s k)) := by
  unfold comb1
  split
  · rename_i h
    rw [mom_nil, canon_none (S := fun k => op (setOf p.1.s k) (setOf p.2.s k)) h hk, Bool.and_false]
  · rw [mom_cons, mom_nil, Bool.or_false, setOf_canon _ _ hk]
theorem setOf_nil (k : Nat) : setOf [] k = false := rfl
theorem mom_less {t : Tp} {r : List RR} (h : ∀ y ∈ r, cmpT t y.t < 0) (k : Nat) : mom (rows r) t k = false := mom_none (fun y hy => by obtain ⟨x, hx, rfl⟩ := mem_rows.1 hy; exact h x hx) k
theorem up_head {x : RR} {a : List RR} (h : Up (rows (x :: a))) : ∀ y ∈ a, cmpT x.t y.t < 0 := fun y hy => h.1 y.rw (mem_rows.2 ⟨y, hy, rfl⟩)
theorem up_all {x y : RR} {b : List RR} (h : cmpT x.t y.t < 0) (hb : Up (rows (y :: b))) : ∀ z ∈ y :: b, cmpT x.t z.t < 0 := by
  intro z hz
  rcases List.mem_cons.1 hz with rfl | hz
  · exact h
  · exact cmpT_is.trans _ _ _ h (up_head hb z hz)
theorem rows_cons (x : RR) (a : List RR) : rows (x :: a) = x.rw :: rows a := rfl
theorem comb_mom (h0 : op false false = false) : ∀ (n : Nat) (a b : List RR), a.length + b.length ≤ n → Up (rows a) → Up (rows b) → ∀ t k, k < 64 → mom (combL op (pairsL a b)) t k = op (mom (rows a) t k) (mom (rows b) t k)
  | _, [], [], _, _, _, t, k, hk => by rw [pairs_nil]; exact h0.symm
  | 0, x :: a, b, h, _, _, _, _, _ => by simp at h
  | 0, [], y :: b, h, _, _, _, _, _ => by simp at h
  | n + 1, x :: a, [], h, ha, hb, t, k, hk => by
    have ih := comb_mom h0 n a [] (by simp at h ⊢; omega) ha.2 hb t k hk
    rw [pairs_left]
    show mom (comb1 op _ ++ combL op _) t k = _
    rw [mom_append, mom_comb1 _ _ hk, ih, rows_cons, mom_cons]
    show (decide (x.t = t) && op (setOf x.s k) false || op (mom (rows a) t k) false) = op (decide (x.t = t) && setOf x.s k || mom (rows a) t k) false
    by_cases e : x.t = t
    · subst e
      rw [mom_less (up_head ha) k, decide_eq_true rfl, h0]; simp
    · rw [decide_eq_false e]; simp
  | n + 1, [], y :: b, h, ha, hb, t, k, hk => by
    have ih := comb_mom h0 n [] b (by simp at h ⊢; omega) ha hb.2 t k hk
    rw [pairs_right]
    show mom (comb1 op _ ++ combL op _) t k = _
    rw [mom_append, mom_comb1 _ _ hk, ih, rows_cons, mom_cons]
    show (decide (y.t = t) && op false (setOf y.s k) || op false (mom (rows b) t k)) = op false (decide (y.t = t) && setOf y.s k || mom (rows b) t k)
    by_cases e : y.t = t
    · subst e
      rw [mom_less (up_head hb) k, decide_eq_true rfl, h0]; simp
    · rw [decide_eq_false e]; simp
  | n + 1, x :: a, y :: b, h, ha, hb, t, k, hk => by
    rcases Int.lt_trichotomy (cmpT x.t y.t) 0 with hc | hc | hc
    · have ih := comb_mom h0 n a (y :: b) (by simp at h ⊢; omega) ha.2 hb t k hk
      rw [pairs_lt hc]
      show mom (comb1 op _ ++ combL op _) t k = _
      rw [mom_append, mom_comb1 _ _ hk, ih, rows_cons x, mom_cons]
      show (decide (x.t = t) && op (setOf x.s k) false || op (mom (rows a) t k) (mom (rows (y :: b)) t k)) = op (decide (x.t = t) && setOf x.s k || mom (rows a) t k) (mom (rows (y :: b)) t k)
      by_cases e : x.t = t
      · subst e
        rw [mom_less (up_head ha) k, mom_less (up_all hc hb) k, decide_eq_true rfl, h0]; simp
      · rw [decide_eq_false e]; simp
    · have ih := comb_mom h0 n a b (by simp at h ⊢; omega) ha.2 hb.2 t k hk
      rw [pairs_eq hc]
      have exy := (cmpT_is.eq _ _).1 hc
      show mom (comb1 op _ ++ combL op _) t k = _
      rw [mom_append, mom_comb1 _ _ hk, ih, rows_cons x, mom_cons, rows_cons y, mom_cons]
      show (decide (x.t = t) && op (setOf x.s k) (setOf y.s k) || op (mom (rows a) t k) (mom (rows b) t k)) = op (decide (x.t = t) && setOf x.s k || mom (rows a) t k) (decide (y.t = t) && setOf y.s k || mom (rows b) t k)
      by_cases e : x.t = t
      · subst e
        rw [mom_less (up_head ha) k, exy, mom_less (up_head hb) k, decide_eq_true rfl, h0]; simp
      · rw [decide_eq_false e, decide_eq_false (by rw [← exy]; exact e)]; simp
    · have hc' : cmpT y.t x.t < 0 := by have := cmpT_is.anti x.t y.t; omega
      have ih := comb_mom h0 n (x :: a) b (by simp at h ⊢; omega) ha hb.2 t k hk
      rw [pairs_gt hc]
      show mom (comb1 op _ ++ combL op _) t k = _
      rw [mom_append, mom_comb1 _ _ hk, ih, rows_cons y, mom_cons]
      show (decide (y.t = t) && op false (setOf y.s k) || op (mom (rows (x :: a)) t k) (mom (rows b) t k)) = op (mom (rows (x :: a)) t k) (decide (y.t = t) && setOf y.s k || mom (rows b) t k)
      by_cases e : y.t = t
      · subst e
        rw [mom_less (up_head hb) k, mom_less (up_all hc' ha) k, decide_eq_true rfl, h0]; simp
      · rw [decide_eq_false e]; simp
theorem pairs_from : ∀ (n : Nat) (a b : List RR), a.length + b.length ≤ n → ∀ p ∈ pairsL a b, (p.1 ∈ a ∨ ∃ y ∈ b, p.1 = argsRow y) ∧ (p.2 ∈ b ∨ p.2 = noRow)
  | _, [], [], _, p, hp => by rw [pairs_nil] at hp; cases hp
  | 0, x :: a, b, h, _, _ => by simp at h
  | 0, [], y :: b, h, _, _ => by simp at h
  | n + 1, x :: a, [], h, p, hp => by
    rw [pairs_left] at hp
    rcases List.mem_cons.1 hp with rfl | hp
    · exact ⟨.inl (by simp), .inr rfl⟩
    · obtain ⟨h1, h2⟩ := pairs_from n a [] (by simp at h ⊢; omega) p hp
      exact ⟨h1.imp (fun h => by simp [h]) id, h2⟩
  | n + 1, [], y :: b, h, p, hp => by
    rw [pairs_right] at hp
    rcases List.mem_cons.1 hp with rfl | hp
    · exact ⟨.inr ⟨y, by simp, rfl⟩, .inl (by simp)⟩
    · obtain ⟨h1, h2⟩ := pairs_from n [] b (by simp at h ⊢; omega) p hp
      exact ⟨h1.imp id (fun ⟨y, hy, e⟩ => ⟨y, by simp [hy], e⟩), h2.imp (fun h => by simp [h]) id⟩
  | n + 1, x :: a, y :: b, h, p, hp => by
    rcases Int.lt_trichotomy (cmpT x.t y.t) 0 with hc | hc | hc
    · rw [pairs_lt hc] at hp
      rcases List.mem_cons.1 hp with rfl | hp
      · exact ⟨.inl (by simp), .inr rfl⟩
      · obtain ⟨h1, h2⟩ := pairs_from n a (y :: b) (by simp at h ⊢; omega) p hp
        exact ⟨h1.imp (fun h => by simp [h]) id, h2⟩
    · rw [pairs_eq hc] at hp
      rcases List.mem_cons.1 hp with rfl | hp
      · exact ⟨.inl (by simp), .inl (by simp)⟩
      · obtain ⟨h1, h2⟩ := pairs_from n a b (by simp at h ⊢; omega) p hp
        exact ⟨h1.imp (fun h => by simp [h]) (fun ⟨y, hy, e⟩ => ⟨y, by simp [hy], e⟩), h2.imp (fun h => by simp [h]) id⟩
    · rw [pairs_gt hc] at hp
      rcases List.mem_cons.1 hp with rfl | hp
      · exact ⟨.inr ⟨y, by simp, rfl⟩, .inl (by simp)⟩
      · obtain ⟨h1, h2⟩ := pairs_from n (x :: a) b (by simp at h ⊢; omega) p hp
        exact ⟨h1.imp id (fun ⟨y, hy, e⟩ => ⟨y, by simp [hy], e⟩), h2.imp (fun h => by simp [h]) id⟩
theorem pairs_mem {a b : List RR} {p : RR × RR} (h : p ∈ pairsL a b) : (p.1 ∈ a ∨ ∃ y ∈ b, p.1 = argsRow y) ∧ (p.2 ∈ b ∨ p.2 = noRow) := pairs_from _ a b (Nat.le_refl _) p h
theorem pairs_tuple {a b : List RR} {p : RR × RR} (h : p ∈ pairsL a b) : ∃ x, (x ∈ a ∨ x ∈ b) ∧ p.1.t = x.t := by
  rcases (pairs_mem h).1 with h | ⟨y, hy, e⟩
  · exact ⟨_, .inl h, rfl⟩
  · exact ⟨y, .inr hy, by rw [e]; rfl⟩
theorem comb_tuple {a b : List RR} {y : Rw} (h : y ∈ combL op (pairsL a b)) : ∃ x, (x ∈ a ∨ x ∈ b) ∧ y.1 = x.t := by
  obtain ⟨p, hp, hy⟩ := List.mem_flatMap.1 h
  obtain ⟨x, hx, e⟩ := pairs_tuple hp
  unfold comb1 at hy
  split at hy
  · cases hy
  · simp at hy; subst hy; exact ⟨x, hx, e⟩
theorem comb_ok {l : List (RR × RR)} {y : Rw} (h : y ∈ combL op l) : OkW y.2 := by
  obtain ⟨p, hp, hy⟩ := List.mem_flatMap.1 h
  unfold comb1 at hy
  split at hy
  · cases hy
  · rename_i h0; simp at hy; subst hy; exact okW_canon h0
theorem up_comb1 {t : Tp} {p : RR × RR} {l : List Rw} (hp : p.1.t = t) (hl : Up l) (hx : ∀ y ∈ l, cmpT t y.1 < 0) : Up (comb1 op p ++ l) := by
  unfold comb1
  split
  · exact hl
  · exact ⟨fun y hy => by rw [hp]; exact hx y hy, hl⟩
theorem comb_up : ∀ (n : Nat) (a b : List RR), a.length + b.length ≤ n → Up (rows a) → Up (rows b) → Up (combL op (pairsL a b))
  | _, [], [], _, _, _ => by rw [pairs_nil]; trivial
  | 0, x :: a, b, h, _, _ => by simp at h
  | 0, [], y :: b, h, _, _ => by simp at h
  | n + 1, x :: a, [], h, ha, hb => by
    rw [pairs_left]
    refine up_comb1 (t := x.t) rfl (comb_up n a [] (by simp at h ⊢; omega) ha.2 hb) fun y hy => ?_
    obtain ⟨z, hz, e⟩ := comb_tuple hy
    rw [e]
    rcases hz with hz | hz
    · exact up_head ha z hz
    · cases hz
  | n + 1, [], y :: b, h, ha, hb => by
    rw [pairs_right]
    refine up_comb1 (t := y.t) rfl (comb_up n [] b (by simp at h ⊢; omega) ha hb.2) fun z hy => ?_
    obtain ⟨z, hz, e⟩ := comb_tuple hy
    rw [e]
    rcases hz with hz | hz
    · cases hz
    · exact up_head hb z hz
  | n + 1, x :: a, y :: b, h, ha, hb => by
    rcases Int.lt_trichotomy (cmpT x.t y.t) 0 with hc | hc | hc
    · rw [pairs_lt hc]
      refine up_comb1 (t := x.t) rfl (comb_up n a (y :: b) (by simp at h ⊢; omega) ha.2 hb) fun z hy => ?_
      obtain ⟨z, hz, e⟩ := comb_tuple hy
      rw [e]
      rcases hz with hz | hz
      · exact up_head ha z hz
      · exact up_all hc hb z hz
    · rw [pairs_eq hc]
      refine up_comb1 (t := x.t) rfl (comb_up n a b (by simp at h ⊢; omega) ha.2 hb.2) fun z hy => ?_
      obtain ⟨z, hz, e⟩ := comb_tuple hy
      rw [e]
      rcases hz with hz | hz
      · exact up_head ha z hz
      · rw [(cmpT_is.eq _ _).1 hc]; exact up_head hb z hz
    · have hc' : cmpT y.t x.t < 0 := by have := cmpT_is.anti x.t y.t; omega
      rw [pairs_gt hc]
      refine up_comb1 (t := y.t) rfl (comb_up n (x :: a) b (by simp at h ⊢; omega) ha hb.2) fun z hy => ?_
      obtain ⟨z, hz, e⟩ := comb_tuple hy
      rw [e]
      rcases hz with hz | hz
      · exact up_all hc' ha z hz
      · exact up_head hb z hz
theorem pairs_len : ∀ (n : Nat) (a b : List RR), a.length + b.length ≤ n → (pairsL a b).length ≤ a.length + b.length
  | _, [], [], _ => by rw [pairs_nil]; simp
  | 0, x :: a, b, h => by simp at h
  | 0, [], y :: b, h => by simp at h
  | n + 1, x :: a, [], h => by
    rw [pairs_left]; have := pairs_len n a [] (by simp at h ⊢; omega); simp at this ⊢; omega
  | n + 1, [], y :: b, h => by
    rw [pairs_right]; have := pairs_len n [] b (by simp at h ⊢; omega); simp at this ⊢; omega
  | n + 1, x :: a, y :: b, h => by
    rcases Int.lt_trichotomy (cmpT x.t y.t) 0 with hc | hc | hc
    · rw [pairs_lt hc]; have := pairs_len n a (y :: b) (by simp at h ⊢; omega); simp at this ⊢; omega
    · rw [pairs_eq hc]; have := pairs_len n a b (by simp at h ⊢; omega); simp at this ⊢; omega
    · rw [pairs_gt hc]; have := pairs_len n (x :: a) b (by simp at h ⊢; omega); simp at this ⊢; omega
end
/-- The result of an operation on two relations. -/
structure OpOf (op : Bool → Bool → Bool) (xs ys zs : List RR) : Prop where
  can : IsCan (rows zs)
  mom : ∀ t k, k < 64 → mom (rows zs) t k = op (mom (rows xs) t k) (mom (rows ys) t k)
  sml : ∀ n m, Sml n xs → Sml m ys → Sml (n + m) zs
theorem opOf_comb {op : Bool → Bool → Bool} (h0 : op false false = false) {xs ys al bl out : List RR} (ha : CanOf xs al) (hb : CanOf ys bl) (ho : rows out = combL op (pairsL al bl)) : OpOf op xs ys out := by
  refine ⟨?_, fun t k hk => ?_, fun n m hn hm => ?_⟩
  · rw [ho]
    exact ⟨comb_up _ al bl (Nat.le_refl _) ha.can.1 hb.can.1, fun y hy => comb_ok hy⟩
  · rw [ho, comb_mom h0 _ al bl (Nat.le_refl _) ha.can.1 hb.can.1 t k hk, ha.mom t k hk, hb.mom t k hk]
  · have s1 := ha.sml n hn
    have s2 := hb.sml m hm
    refine ⟨?_, fun z hz => ?_⟩
    · have h1 : out.length = (combL op (pairsL al bl)).length := by rw [← ho, rows_length]
      have h2 := pairs_len _ al bl (Nat.le_refl _)
      have h3 : (combL op (pairsL al bl)).length ≤ (pairsL al bl).length := by
        unfold combL
        generalize pairsL al bl = l
        induction l with
        | nil => simp
        | cons p l ih =>
          rw [List.flatMap_cons, List.length_append, List.length_cons]
          have : (comb1 op p).length ≤ 1 := by unfold comb1; split <;> simp
          omega
      have := s1.len; have := s2.len; omega
    · have hz2 : z.rw ∈ combL op (pairsL al bl) := by rw [← ho]; exact mem_rows.2 ⟨z, hz, rfl⟩
      obtain ⟨x, hx, e⟩ := comb_tuple hz2
      have hw := comb_ok hz2
      refine ⟨?_, ?_⟩
      · have e' : z.t = x.t := e
        rw [e']
        rcases hx with hx | hx
        · exact (s1.each x hx).1
        · exact (s2.each x hx).1
      · have hw' : OkW z.s := hw
        rw [← hw'.2]
        exact Nat.le_trans (canon_le _) (by omega)
end Go.Proofs.YtdibijhaiaiifaaDoor
/- The walk of the iterator of pairs. -/
namespace Go.Proofs.YtdibijhaiaiifaaDoor
open Go.RowKit Go.Shelf
attribute [local go_sem] Oper.semAt_some
/-- A block of one cell, or of two. -/
def Cel (w : World) (g : Nat) (t : TypeId) (l : List Value) : Prop := w.heap[g]? = some (.cells l.toArray t (0, 0))
theorem Cel.at_ {w : World} {g : Nat} {t : TypeId} {l : List Value} (h : Cel w g t l) {j : Nat} {v : Value} (hj : l[j]? = some v) : w.cell? ⟨g, j, none⟩ = some v := cell_at h (by simpa using hj)
theorem Cel.free {w : World} {g : Nat} {t : TypeId} {l : List Value} (h : Cel w g t l) (j : Nat) : w.frozen? ⟨g, j, none⟩ = false := free_at h
theorem Cel.lt {w : World} {g : Nat} {t : TypeId} {l : List Value} (h : Cel w g t l) : g < w.heap.size := block_lt h
theorem Cel.agree {w w' : World} {g : Nat} {t : TypeId} {l : List Value} {X : Nat → Prop} (h : Cel w g t l) (hg : Agree X w w') (hx : ¬ X g) : Cel w' g t l := (hg.block g h.lt hx).trans h
theorem Cel.keep {w w' : World} {g : Nat} {t : TypeId} {l : List Value} (h : Cel w g t l) (hb : Below w.heap.size w w') : Cel w' g t l := block_keep h hb
theorem Cel.new (w : World) (t : TypeId) (l : List Value) : Cel (w.alloc (.cells l.toArray t)) w.heap.size t l := World.alloc_heap_new w _
theorem Cel.set {w : World} {g : Nat} {t : TypeId} {l : List Value} (h : Cel w g t l) (j : Nat) (v : Value) : Cel (w.setCell ⟨g, j, none⟩ v) g t (l.set j v) := by
  have := heap_setCell_same w g j l.toArray t v h
  unfold Cel
  rw [this]
  simp
theorem Cel.other {w : World} {g : Nat} {t : TypeId} {l : List Value} (h : Cel w g t l) {p : Addr} (hp : g ≠ p.block) (v : Value) : Cel (w.setCell p v) g t l := (heap_setCell_other w p g v hp).trans h
theorem Agree.setCell {X : Nat → Prop} {A B : World} (h : Agree X A B) {p : Addr} (hp : X p.block ∨ A.heap.size ≤ p.block) (v : Value) : Agree X A (B.setCell p v) := by
  refine ⟨h.os, h.tape, h.output, ?_, fun k hk hx => ?_⟩
  · have : (B.setCell p v).heap.size = B.heap.size := by simp [World.setCell]
    rw [this]; exact h.size
  · rw [heap_setCell_other B p k v fun e => ?_]
    · exact h.block k hk hx
    · rcases hp with hp | hp
      · exact hx (by rw [e]; exact hp)
      · omega
theorem Agree.alloc {X : Nat → Prop} {A B : World} (h : Agree X A B) (o : Obj) : Agree X A (B.alloc o) := h.trans (.of_below (below_new B o))
theorem Agree.drew {X : Nat → Prop} {A B : World} (h : Agree X A B) : Agree X A B.drew := ⟨h.os, h.tape, h.output, h.size, h.block⟩
theorem IsRel.tail {w : World} {b off n c : Nat} {x : RR} {l : List RR} (h : IsRel w (.slice (some ⟨b, off, none⟩) n c) (x :: l)) : IsRel w (.slice (if c = 1 then some ⟨b, off, none⟩ else some ⟨b, off + 2, none⟩) (n - 1) (c - 1)) l := by
  obtain ⟨⟨a', c', e, hr, h1, h2, h3⟩, hok⟩ := h
  injection e with e1 e2 e3
  subst e1 e2 e3
  simp only [List.length_cons] at *
  refine ⟨⟨_, c - 1, by rw [Nat.add_sub_cancel], ?_, by omega, by omega, by omega⟩, fun y hy => hok y (by simp [hy])⟩
  by_cases h0 : c = 1
  · exact .inl (List.eq_nil_of_length_eq_zero (by omega))
  · rw [if_neg h0]
    refine .inr ⟨b, off + 2, rfl, fun i y hi j u hj => ?_⟩
    rcases hr with hr | ⟨b', off', e, hc⟩
    · cases hr
    · injection e with e; injection e with e1 e2; subst e1 e2
      have := hc (i + 1) y (by simpa using hi) j u hj
      rwa [show off + (i + 1) * 2 + j = off + 2 + i * 2 + j by omega] at this
def encPr (p : RR × RR) : Array Value := #[rowV p.1, rowV p.2]
set_option maxRecDepth 100000 in
set_option maxHeartbeats 2000000 in
theorem pairs_in (l g1 g2 b7 n₀ : Nat) (al bl : List RR) (ua ub : Value) (J : List (RR × RR) → World → Prop) (hJ : ∀ s A B, J s A → Agree (fun k => k = g1 ∨ k = g2) A B → J s B)
    (hY : ∀ pre x A, x ∈ pairsL al bl → J pre A → pre.length < (pairsL al bl).length → YieldAt Fence.wide 2 Tryd.prog l (encPr x) A fun e B => e = .returned (.bool true) ∧ J (pre ++ [x]) B ∧ Agree (fun k => k = b7 ∨ n₀ ≤ k) A B)
    (W : World) (h12 : g1 ≠ g2) (h17 : g1 ≠ b7) (h27 : g2 ≠ b7) (h1n : g1 < n₀) (h2n : g2 < n₀) (hg1 : Cel W g1 24 [ua]) (hg2 : Cel W g2 24 [ub])
    (hR : ∀ B, Agree (fun k => k = b7 ∨ k = g1 ∨ k = g2 ∨ n₀ ≤ k) W B → IsRel B ua al ∧ IsRel B ub bl) (has : al.length ≤ 1000000) (hbs : bl.length ≤ 1000000) (h0 : J [] W) :
    CallsIn Fence.wide 3 Tryd.prog 143 #[.func (.yield l) #[] #[], .pointer (some ⟨g1, 0, none⟩), .pointer (some ⟨g2, 0, none⟩)] W fun e B => (∃ v, e = .returned v) ∧ ∃ xs, xs = pairsL al bl ∧ J xs B := by
  refine callsIn_of_wp Tryd.func143 rfl trivial ?_ rfl
  simp only [Tryd.ntmps143, List.size_toArray, List.length_cons, List.length_nil, Nat.reduceAdd, Nat.reduceSub, Array.replicate_succ, Array.replicate_zero, List.push_toArray, List.append_toArray, List.nil_append, List.cons_append]
  gi_wp2
  gi_loopg [6] (al.length + bl.length) (fun g v6 wr => ∃ (pre : List (RR × RR)) (la lb : List RR) (va vb : Value), la.length + lb.length ≤ g ∧ la.length ≤ 1000000 ∧ lb.length ≤ 1000000 ∧ Hid (pre ++ pairsL la lb = pairsL al bl) ∧ Cel wr g1 24 [va] ∧ Cel wr g2 24 [vb] ∧ J pre wr ∧
    Agree (fun k => k = b7 ∨ k = g1 ∨ k = g2 ∨ n₀ ≤ k) W wr ∧ Hid (∀ B, Agree (fun k => k = b7 ∨ k = g1 ∨ k = g2 ∨ n₀ ≤ k) W B → IsRel B va la ∧ IsRel B vb lb))
  case atStart => exact ⟨[], al, bl, ua, ub, Nat.le_refl _, has, hbs, Lib.hid rfl, hg1, hg2, h0, Agree.refl _ _, Lib.hid hR⟩
  case round =>
    obtain ⟨pre, la, lb, va, vb, hg, hla, hlb, HP, G1, G2, hJs, HA, HR⟩ := hrel
    obtain ⟨ra, rb⟩ := HR.out _ HA
    obtain ⟨pa, ca, rfl, hma⟩ := ra.shape
    obtain ⟨pb, cb, rfl, hmb⟩ := rb.shape
    obtain ⟨n, hn⟩ : ∃ n, la.length = n := ⟨_, rfl⟩
    obtain ⟨m, hm⟩ : ∃ m, lb.length = m := ⟨_, rfl⟩
    rw [hn] at G1 ra HR hg hla hma
    rw [hm] at G2 rb HR hg hlb hmb
    have HN := Lib.hid hn
    have HM := Lib.hid hm
    clear hn hm
    have y1 := G1.at_ (j := 0) rfl
    have y2 := G2.at_ (j := 0) rfl
    have f1 := G1.free 0
    have f2 := G2.free 0
    have hxx : ∀ k, (k = g1 ∨ k = g2) → (k = b7 ∨ k = g1 ∨ k = g2 ∨ n₀ ≤ k) := fun k h => by omega
    have hxy : ∀ k, (k = b7 ∨ n₀ ≤ k) → (k = b7 ∨ k = g1 ∨ k = g2 ∨ n₀ ≤ k) := fun k h => by omega
    cases la with
    | nil =>
      obtain rfl : 0 = n := HN.out
      cases lb with
      | nil =>
        obtain rfl : 0 = m := HM.out
        have HE := Lib.hid (show pre = pairsL al bl by have := HP.out; rwa [pairs_nil, List.append_nil] at this)
        gi_wp2
        go_end0
        exact ⟨⟨_, rfl⟩, pre, HE.out, hJs⟩
      | cons y lb =>
        have hm1 : 1 ≤ m := by rw [← HM.out]; simp
        have hmz : (0 : Int) < (m : Int) := by omega
        have hm0 : ((m : Int) == 0) = false := by rw [beq_eq_false_iff_ne]; omega
        have HL := Lib.hid (show lb.length = m - 1 by rw [← HM.out]; simp)
        have HE := Lib.hid (show pre ++ (argsRow y, y) :: pairsL [] lb = pairsL al bl by have := HP.out; rwa [pairs_right] at this)
        obtain ⟨b2, off2, rfl, -⟩ := rb.at_ (i := 0) rfl
        gi_upto_region 2 with fail
        obtain ⟨nx, hnx⟩ : ∃ nx, wr.heap.size = nx := ⟨_, rfl⟩
        obtain ⟨w1, hw1⟩ : ∃ w1, (wr.alloc (.cells #[.slice none 0 0, .slice none 0 0] 44)).alloc (.cells #[.slice none 0 0, .slice none 0 0] 44) = w1 := ⟨_, rfl⟩
        have B1 : Below wr.heap.size wr w1 := by rw [← hw1]; exact below_alloc' (below_new _ _)
        have X1 : Cel w1 nx 44 [.slice none 0 0, .slice none 0 0] := by rw [← hw1, ← hnx]; exact (Cel.new wr 44 [.slice none 0 0, .slice none 0 0]).keep (below_new _ _)
        have Y1 : Cel w1 (nx + 1) 44 [.slice none 0 0, .slice none 0 0] := by
          have := Cel.new (wr.alloc (.cells #[.slice none 0 0, .slice none 0 0] 44)) 44 [.slice none 0 0, .slice none 0 0]
          rw [World.size_alloc, hnx] at this
          rw [← hw1]; exact this
        have gx1 : g1 < nx := by rw [← hnx]; exact G1.lt
        have gx2 : g2 < nx := by rw [← hnx]; exact G2.lt
        rw [hnx, hw1]
        clear hw1
        replace G1 := G1.keep B1
        replace G2 := G2.keep B1
        have A1 : Agree (fun k => k = g1 ∨ k = g2) wr w1 := .of_below B1
        have ne1 : ¬ g1 = nx := by omega
        have ne2 : ¬ nx = g1 := by omega
        have ne3 : ¬ g2 = nx + 1 := by omega
        have ne4 : ¬ nx + 1 = g2 := by omega
        clear y1 y2 f1 f2 B1
        have Rb1 := (HR.out _ (HA.trans (A1.mono hxx))).2
        obtain ⟨_, _, e, d0, d1, -⟩ := Rb1.at_ (i := 0) rfl
        cases e
        simp only [Nat.zero_mul, Nat.add_zero] at d0 d1
        have t0 := G2.at_ (j := 0) rfl
        have t6 := G1.at_ (j := 0) rfl
        have t1 := G2.free 0
        have t2 := Y1.at_ (j := 0) rfl
        have t3 := Y1.at_ (j := 1) rfl
        have t4 := Y1.free 0
        have t5 := Y1.free 1
        gi_upto_region 11 with fail
        refine wpIn_wide.2 ?_
        go_region
        obtain ⟨pt2, hpt2⟩ : ∃ z, (if cb = 1 then some (⟨b2, off2, none⟩ : Addr) else some ⟨b2, off2 + 2, none⟩) = z := ⟨_, rfl⟩
        rw [hpt2]
        have Tb : Hid (∀ B, Agree (fun k => k = b7 ∨ k = g1 ∨ k = g2 ∨ n₀ ≤ k) W B → IsRel B (.slice pt2 (m - 1) (cb - 1)) lb) := Lib.hid fun B hB => by rw [← hpt2]; exact (HR.out B hB).2.tail
        have Y2 : Cel (((w1.setCell ⟨nx + 1, 0, none⟩ y.av).setCell ⟨nx + 1, 1, none⟩ y.wv).setCell ⟨g2, 0, none⟩ (.slice pt2 (m - 1) (cb - 1))).drew (nx + 1) 44 [y.av, y.wv] := (((Y1.set 0 y.av).set 1 y.wv).other (p := ⟨g2, 0, none⟩) (by simp only; omega) _)
        have X2 : Cel (((w1.setCell ⟨nx + 1, 0, none⟩ y.av).setCell ⟨nx + 1, 1, none⟩ y.wv).setCell ⟨g2, 0, none⟩ (.slice pt2 (m - 1) (cb - 1))).drew nx 44 _ := (((X1.other (p := ⟨nx + 1, 0, none⟩) (by simp only; omega) _).other (p := ⟨nx + 1, 1, none⟩) (by simp only; omega) _).other (p := ⟨g2, 0, none⟩) (by simp only; omega) _)
        have G2' : Cel (((w1.setCell ⟨nx + 1, 0, none⟩ y.av).setCell ⟨nx + 1, 1, none⟩ y.wv).setCell ⟨g2, 0, none⟩ (.slice pt2 (m - 1) (cb - 1))).drew g2 24 [.slice pt2 (m - 1) (cb - 1)] := (((G2.other (p := ⟨nx + 1, 0, none⟩) (by simp only; omega) _).other (p := ⟨nx + 1, 1, none⟩) (by simp only; omega) _).set 0 _)
        have G1' : Cel (((w1.setCell ⟨nx + 1, 0, none⟩ y.av).setCell ⟨nx + 1, 1, none⟩ y.wv).setCell ⟨g2, 0, none⟩ (.slice pt2 (m - 1) (cb - 1))).drew g1 24 _ := (((G1.other (p := ⟨nx + 1, 0, none⟩) (by simp only; omega) _).other (p := ⟨nx + 1, 1, none⟩) (by simp only; omega) _).other (p := ⟨g2, 0, none⟩) (by simp only; omega) _)
        have A2 : Agree (fun k => k = g1 ∨ k = g2) wr (((w1.setCell ⟨nx + 1, 0, none⟩ y.av).setCell ⟨nx + 1, 1, none⟩ y.wv).setCell ⟨g2, 0, none⟩ (.slice pt2 (m - 1) (cb - 1))).drew := (((A1.setCell (p := ⟨nx + 1, 0, none⟩) (.inr (by simp only; omega)) _).setCell (p := ⟨nx + 1, 1, none⟩) (.inr (by simp only; omega)) _).setCell (p := ⟨g2, 0, none⟩) (.inl (.inr rfl)) _).drew
        clear t0 t1 t2 t3 t4 t5 t6 d0 d1 G1 G2 X1 Y1 A1 hpt2 Rb1
        have G1 := G1'
        have G2 := G2'
        clear G1' G2'
        generalize World.drew _ = w2 at *
        have t0 := Y2.at_ (j := 0) rfl
        have t2 := X2.at_ (j := 0) rfl
        have t4 := X2.free 0
        have X3 := X2.set 0 y.av
        have Y3 := Y2.other (p := ⟨nx, 0, none⟩) (by simp only; omega) y.av
        replace G1 := G1.other (p := ⟨nx, 0, none⟩) (by simp only; omega) y.av
        replace G2 := G2.other (p := ⟨nx, 0, none⟩) (by simp only; omega) y.av
        have A3 := A2.setCell (p := ⟨nx, 0, none⟩) (.inr (by simp only; omega)) y.av
        gi_upto_region 14 with fail
        clear t0 t2 t4 X2 Y2 A2
        generalize w2.setCell _ _ = w3 at *
        have RA : Hid (∀ B, Agree (fun k => k = b7 ∨ k = g1 ∨ k = g2 ∨ n₀ ≤ k) W B → IsRel B (.slice pa 0 ca) []) := Lib.hid fun B hB => (HR.out B hB).1
        have RB := Tb
        have t0 := X3.at_ (j := 0) rfl
        have t1 := X3.at_ (j := 1) rfl
        have t2 := Y3.at_ (j := 0) rfl
        have t3 := Y3.at_ (j := 1) rfl
        have HA2 := HA.trans (A3.mono hxx)
        have hYY : YieldAt Fence.wide 2 Tryd.prog l #[.agg #[y.av, .slice none 0 0], .agg #[y.av, y.wv]] w3 (fun e B => e = .returned (.bool true) ∧ J (pre ++ [(argsRow y, y)]) B ∧ Agree (fun k => k = b7 ∨ n₀ ≤ k) w3 B) := hY pre (argsRow y, y) w3 (by rw [← HE.out]; simp) (hJ _ wr w3 hJs A3) (by rw [← HE.out]; simp)
        obtain ⟨fn, tmps, assign, body, hy, hC⟩ := hYY
        clear X3 Y3
        gi_wp2
        refine hC.mono ?_
        rintro e W3 ⟨rfl, hJ3, hk3⟩
        have HE3 := Lib.hid (by have := HE.out; rwa [List.append_cons] at this)
        replace G1 := G1.agree hk3 (by omega)
        replace G2 := G2.agree hk3 (by omega)
        have HA3 := HA2.trans (hk3.mono hxy)
        clear HA2 hk3 HE t0 t1 t2 t3 hy hC
        gi_wp2
        gi_roundg (0 + (m - 1))
        case measure => omega
        case rel => exact ⟨_, [], lb, _, _, by rw [HL.out]; simp, by simp, by rw [HL.out]; omega, HE3, G1, G2, hJ3, HA3, Lib.hid fun B hB => ⟨RA.out B hB, RB.out B hB⟩⟩
    | cons x la =>
      have hn1 : 1 ≤ n := by rw [← HN.out]; simp
      have hnz : (0 : Int) < (n : Int) := by omega
      have hn0 : ((n : Int) == 0) = false := by rw [beq_eq_false_iff_ne]; omega
      have HLA := Lib.hid (show la.length = n - 1 by rw [← HN.out]; simp)
      obtain ⟨b, off, rfl, -⟩ := ra.at_ (i := 0) rfl
      cases lb with
      | nil =>
        obtain rfl : 0 = m := HM.out
        have HE := Lib.hid (show pre ++ (x, noRow) :: pairsL la [] = pairsL al bl by have := HP.out; rwa [pairs_left] at this)
        gi_upto_region 2 with fail
        obtain ⟨nx, hnx⟩ : ∃ nx, wr.heap.size = nx := ⟨_, rfl⟩
        obtain ⟨w1, hw1⟩ : ∃ w1, (wr.alloc (.cells #[.slice none 0 0, .slice none 0 0] 44)).alloc (.cells #[.slice none 0 0, .slice none 0 0] 44) = w1 := ⟨_, rfl⟩
        have B1 : Below wr.heap.size wr w1 := by rw [← hw1]; exact below_alloc' (below_new _ _)
        have X1 : Cel w1 nx 44 [.slice none 0 0, .slice none 0 0] := by rw [← hw1, ← hnx]; exact (Cel.new wr 44 [.slice none 0 0, .slice none 0 0]).keep (below_new _ _)
        have Y1 : Cel w1 (nx + 1) 44 [.slice none 0 0, .slice none 0 0] := by
          have := Cel.new (wr.alloc (.cells #[.slice none 0 0, .slice none 0 0] 44)) 44 [.slice none 0 0, .slice none 0 0]
          rw [World.size_alloc, hnx] at this
          rw [← hw1]; exact this
        have gx1 : g1 < nx := by rw [← hnx]; exact G1.lt
        have gx2 : g2 < nx := by rw [← hnx]; exact G2.lt
        rw [hnx, hw1]
        clear hw1
        replace G1 := G1.keep B1
        replace G2 := G2.keep B1
        have A1 : Agree (fun k => k = g1 ∨ k = g2) wr w1 := .of_below B1
        have ne1 : ¬ g1 = nx := by omega
        have ne2 : ¬ nx = g1 := by omega
        have ne3 : ¬ g2 = nx + 1 := by omega
        have ne4 : ¬ nx + 1 = g2 := by omega
        clear y1 y2 f1 f2 B1
        have Ra1 := (HR.out _ (HA.trans (A1.mono hxx))).1
        obtain ⟨_, _, e, c0, c1, -⟩ := Ra1.at_ (i := 0) rfl
        cases e
        simp only [Nat.zero_mul, Nat.add_zero] at c0 c1
        have t0 := G1.at_ (j := 0) rfl
        have t6 := G2.at_ (j := 0) rfl
        have t1 := G1.free 0
        have t2 := X1.at_ (j := 0) rfl
        have t3 := X1.at_ (j := 1) rfl
        have t4 := X1.free 0
        have t5 := X1.free 1
        gi_upto_region 9 with fail
        refine wpIn_wide.2 ?_
        go_region
        obtain ⟨pt, hpt⟩ : ∃ z, (if ca = 1 then some (⟨b, off, none⟩ : Addr) else some ⟨b, off + 2, none⟩) = z := ⟨_, rfl⟩
        rw [hpt]
        have Ta : Hid (∀ B, Agree (fun k => k = b7 ∨ k = g1 ∨ k = g2 ∨ n₀ ≤ k) W B → IsRel B (.slice pt (n - 1) (ca - 1)) la) := Lib.hid fun B hB => by rw [← hpt]; exact (HR.out B hB).1.tail
        have X2 : Cel (((w1.setCell ⟨nx, 0, none⟩ x.av).setCell ⟨nx, 1, none⟩ x.wv).setCell ⟨g1, 0, none⟩ (.slice pt (n - 1) (ca - 1))).drew nx 44 [x.av, x.wv] := (((X1.set 0 x.av).set 1 x.wv).other (p := ⟨g1, 0, none⟩) (by simp only; omega) _)
        have Y2 : Cel (((w1.setCell ⟨nx, 0, none⟩ x.av).setCell ⟨nx, 1, none⟩ x.wv).setCell ⟨g1, 0, none⟩ (.slice pt (n - 1) (ca - 1))).drew (nx + 1) 44 _ := (((Y1.other (p := ⟨nx, 0, none⟩) (by simp only; omega) _).other (p := ⟨nx, 1, none⟩) (by simp only; omega) _).other (p := ⟨g1, 0, none⟩) (by simp only; omega) _)
        have G1' : Cel (((w1.setCell ⟨nx, 0, none⟩ x.av).setCell ⟨nx, 1, none⟩ x.wv).setCell ⟨g1, 0, none⟩ (.slice pt (n - 1) (ca - 1))).drew g1 24 [.slice pt (n - 1) (ca - 1)] := (((G1.other (p := ⟨nx, 0, none⟩) (by simp only; omega) _).other (p := ⟨nx, 1, none⟩) (by simp only; omega) _).set 0 _)
        have G2' : Cel (((w1.setCell ⟨nx, 0, none⟩ x.av).setCell ⟨nx, 1, none⟩ x.wv).setCell ⟨g1, 0, none⟩ (.slice pt (n - 1) (ca - 1))).drew g2 24 _ := (((G2.other (p := ⟨nx, 0, none⟩) (by simp only; omega) _).other (p := ⟨nx, 1, none⟩) (by simp only; omega) _).other (p := ⟨g1, 0, none⟩) (by simp only; omega) _)
        have A2 : Agree (fun k => k = g1 ∨ k = g2) wr (((w1.setCell ⟨nx, 0, none⟩ x.av).setCell ⟨nx, 1, none⟩ x.wv).setCell ⟨g1, 0, none⟩ (.slice pt (n - 1) (ca - 1))).drew := (((A1.setCell (p := ⟨nx, 0, none⟩) (.inr (by simp only; omega)) _).setCell (p := ⟨nx, 1, none⟩) (.inr (by simp only; omega)) _).setCell (p := ⟨g1, 0, none⟩) (.inl (.inl rfl)) _).drew
        clear t0 t1 t2 t3 t4 t5 t6 c0 c1 G1 G2 X1 Y1 A1 hpt Ra1
        have G1 := G1'
        have G2 := G2'
        clear G1' G2'
        generalize World.drew _ = w2 at *
        have RA := Ta
        have RB : Hid (∀ B, Agree (fun k => k = b7 ∨ k = g1 ∨ k = g2 ∨ n₀ ≤ k) W B → IsRel B (.slice pb 0 cb) []) := Lib.hid fun B hB => (HR.out B hB).2
        have t0 := X2.at_ (j := 0) rfl
        have t1 := X2.at_ (j := 1) rfl
        have t2 := Y2.at_ (j := 0) rfl
        have t3 := Y2.at_ (j := 1) rfl
        have HA2 := HA.trans (A2.mono hxx)
        have hYY : YieldAt Fence.wide 2 Tryd.prog l #[.agg #[x.av, x.wv], .agg #[.slice none 0 0, .slice none 0 0]] w2 (fun e B => e = .returned (.bool true) ∧ J (pre ++ [(x, noRow)]) B ∧ Agree (fun k => k = b7 ∨ n₀ ≤ k) w2 B) := hY pre (x, noRow) w2 (by rw [← HE.out]; simp) (hJ _ wr w2 hJs A2) (by rw [← HE.out]; simp)
        obtain ⟨fn, tmps, assign, body, hy, hC⟩ := hYY
        clear X2 Y2
        gi_wp2
        refine hC.mono ?_
        rintro e W3 ⟨rfl, hJ3, hk3⟩
        have HE3 := Lib.hid (by have := HE.out; rwa [List.append_cons] at this)
        replace G1 := G1.agree hk3 (by omega)
        replace G2 := G2.agree hk3 (by omega)
        have HA3 := HA2.trans (hk3.mono hxy)
        clear HA2 hk3 HE t0 t1 t2 t3 hy hC
        gi_wp2
        gi_roundg ((n - 1) + 0)
        case measure => omega
        case rel => exact ⟨_, la, [], _, _, by rw [HLA.out]; simp, by rw [HLA.out]; omega, by simp, HE3, G1, G2, hJ3, HA3, Lib.hid fun B hB => ⟨RA.out B hB, RB.out B hB⟩⟩
      | cons y lb =>
        have hm1 : 1 ≤ m := by rw [← HM.out]; simp
        have hmz : (0 : Int) < (m : Int) := by omega
        have hm0 : ((m : Int) == 0) = false := by rw [beq_eq_false_iff_ne]; omega
        have HLB := Lib.hid (show lb.length = m - 1 by rw [← HM.out]; simp)
        obtain ⟨b2, off2, rfl, -⟩ := rb.at_ (i := 0) rfl
        have hnm : ¬ (n : Int) + (m : Int) ≤ 0 := by omega
        have hnp : 0 < n := by omega
        have hmp : 0 < m := by omega
        gi_upto_region 2 with fail
        obtain ⟨nx, hnx⟩ : ∃ nx, wr.heap.size = nx := ⟨_, rfl⟩
        obtain ⟨w1, hw1⟩ : ∃ w1, (wr.alloc (.cells #[.slice none 0 0, .slice none 0 0] 44)).alloc (.cells #[.slice none 0 0, .slice none 0 0] 44) = w1 := ⟨_, rfl⟩
        have B1 : Below wr.heap.size wr w1 := by rw [← hw1]; exact below_alloc' (below_new _ _)
        have X1 : Cel w1 nx 44 [.slice none 0 0, .slice none 0 0] := by rw [← hw1, ← hnx]; exact (Cel.new wr 44 [.slice none 0 0, .slice none 0 0]).keep (below_new _ _)
        have Y1 : Cel w1 (nx + 1) 44 [.slice none 0 0, .slice none 0 0] := by
          have := Cel.new (wr.alloc (.cells #[.slice none 0 0, .slice none 0 0] 44)) 44 [.slice none 0 0, .slice none 0 0]
          rw [World.size_alloc, hnx] at this
          rw [← hw1]; exact this
        have gx1 : g1 < nx := by rw [← hnx]; exact G1.lt
        have gx2 : g2 < nx := by rw [← hnx]; exact G2.lt
        rw [hnx, hw1]
        clear hw1
        replace G1 := G1.keep B1
        replace G2 := G2.keep B1
        have A1 : Agree (fun k => k = g1 ∨ k = g2) wr w1 := .of_below B1
        have ne1 : ¬ g1 = nx := by omega
        have ne2 : ¬ nx = g1 := by omega
        have ne3 : ¬ g2 = nx + 1 := by omega
        have ne4 : ¬ nx + 1 = g2 := by omega
        clear y1 y2 f1 f2 B1
        obtain ⟨r, hr⟩ : ∃ r, cmpT x.t y.t = r := ⟨_, rfl⟩
        have Rab := HR.out _ (HA.trans (A1.mono hxx))
        obtain ⟨_, _, e, c0, c1, rx⟩ := Rab.1.at_ (i := 0) rfl
        cases e
        obtain ⟨_, _, e, d0, d1, ry⟩ := Rab.2.at_ (i := 0) rfl
        cases e
        simp only [Nat.zero_mul, Nat.add_zero] at c0 c1 d0 d1
        have y1 := G1.at_ (j := 0) rfl
        have y2 := G2.at_ (j := 0) rfl
        gi_upto_region 3 with fail
        refine wpIn_wide.2 ?_
        replace c0 := After.cell c0
        replace c1 := After.cell c1
        replace d0 := After.cell d0
        replace d1 := After.cell d1
        replace y1 := After.cell y1
        replace y2 := After.cell y2
        refine wp_region_after (by kernel_rfl) (by kernel_rfl) ?_
        repeat (quiet_step ((go_at_call 73; exact byArgs_after rx ry _)))
        refine wpQuiet_nil ?_
        intro w9 hg9
        have q9 := hg9.below
        replace X1 := X1.keep q9
        replace Y1 := Y1.keep q9
        replace G1 := G1.keep q9
        replace G2 := G2.keep q9
        replace A1 := A1.trans (.of_below q9)
        clear c0 c1 d0 d1 y1 y2 q9 hg9 Rab rx ry
        obtain ⟨w1, hw1⟩ : ∃ z, w9 = z := ⟨_, rfl⟩
        rw [hw1] at X1 Y1 G1 G2 A1
        rw [hw1]
        clear hw1
        by_cases hlt : r < 0
        · have h1 : r < 0 := hlt
          have h1b : ¬ (0 : Int) ≤ r := by omega
          have h1c : ¬ (0 : Int) < r := by omega
          have h1d : r ≤ 0 := by omega
          have HE := Lib.hid (show pre ++ (x, noRow) :: pairsL la (y :: lb) = pairsL al bl by have := HP.out; rwa [pairs_lt (by omega)] at this)
          clear hr
          have Ra1 := (HR.out _ (HA.trans (A1.mono hxx))).1
          obtain ⟨_, _, e, c0, c1, -⟩ := Ra1.at_ (i := 0) rfl
          cases e
          simp only [Nat.zero_mul, Nat.add_zero] at c0 c1
          have t0 := G1.at_ (j := 0) rfl
          have t6 := G2.at_ (j := 0) rfl
          have t1 := G1.free 0
          have t2 := X1.at_ (j := 0) rfl
          have t3 := X1.at_ (j := 1) rfl
          have t4 := X1.free 0
          have t5 := X1.free 1
          gi_upto_region 9 with fail
          refine wpIn_wide.2 ?_
          go_region
          obtain ⟨pt, hpt⟩ : ∃ z, (if ca = 1 then some (⟨b, off, none⟩ : Addr) else some ⟨b, off + 2, none⟩) = z := ⟨_, rfl⟩
          rw [hpt]
          have Ta : Hid (∀ B, Agree (fun k => k = b7 ∨ k = g1 ∨ k = g2 ∨ n₀ ≤ k) W B → IsRel B (.slice pt (n - 1) (ca - 1)) la) := Lib.hid fun B hB => by rw [← hpt]; exact (HR.out B hB).1.tail
          have X2 : Cel (((w1.setCell ⟨nx, 0, none⟩ x.av).setCell ⟨nx, 1, none⟩ x.wv).setCell ⟨g1, 0, none⟩ (.slice pt (n - 1) (ca - 1))).drew nx 44 [x.av, x.wv] := (((X1.set 0 x.av).set 1 x.wv).other (p := ⟨g1, 0, none⟩) (by simp only; omega) _)
          have Y2 : Cel (((w1.setCell ⟨nx, 0, none⟩ x.av).setCell ⟨nx, 1, none⟩ x.wv).setCell ⟨g1, 0, none⟩ (.slice pt (n - 1) (ca - 1))).drew (nx + 1) 44 _ := (((Y1.other (p := ⟨nx, 0, none⟩) (by simp only; omega) _).other (p := ⟨nx, 1, none⟩) (by simp only; omega) _).other (p := ⟨g1, 0, none⟩) (by simp only; omega) _)
          have G1' : Cel (((w1.setCell ⟨nx, 0, none⟩ x.av).setCell ⟨nx, 1, none⟩ x.wv).setCell ⟨g1, 0, none⟩ (.slice pt (n - 1) (ca - 1))).drew g1 24 [.slice pt (n - 1) (ca - 1)] := (((G1.other (p := ⟨nx, 0, none⟩) (by simp only; omega) _).other (p := ⟨nx, 1, none⟩) (by simp only; omega) _).set 0 _)
          have G2' : Cel (((w1.setCell ⟨nx, 0, none⟩ x.av).setCell ⟨nx, 1, none⟩ x.wv).setCell ⟨g1, 0, none⟩ (.slice pt (n - 1) (ca - 1))).drew g2 24 _ := (((G2.other (p := ⟨nx, 0, none⟩) (by simp only; omega) _).other (p := ⟨nx, 1, none⟩) (by simp only; omega) _).other (p := ⟨g1, 0, none⟩) (by simp only; omega) _)
          have A2 : Agree (fun k => k = g1 ∨ k = g2) wr (((w1.setCell ⟨nx, 0, none⟩ x.av).setCell ⟨nx, 1, none⟩ x.wv).setCell ⟨g1, 0, none⟩ (.slice pt (n - 1) (ca - 1))).drew := (((A1.setCell (p := ⟨nx, 0, none⟩) (.inr (by simp only; omega)) _).setCell (p := ⟨nx, 1, none⟩) (.inr (by simp only; omega)) _).setCell (p := ⟨g1, 0, none⟩) (.inl (.inl rfl)) _).drew
          clear t0 t1 t2 t3 t4 t5 t6 c0 c1 G1 G2 X1 Y1 A1 hpt Ra1
          have G1 := G1'
          have G2 := G2'
          clear G1' G2'
          generalize World.drew _ = w2 at *
          have RA := Ta
          have RB : Hid (∀ B, Agree (fun k => k = b7 ∨ k = g1 ∨ k = g2 ∨ n₀ ≤ k) W B → IsRel B (.slice (some ⟨b2, off2, none⟩) m cb) (y :: lb)) := Lib.hid fun B hB => (HR.out B hB).2
          have t0 := X2.at_ (j := 0) rfl
          have t1 := X2.at_ (j := 1) rfl
          have t2 := Y2.at_ (j := 0) rfl
          have t3 := Y2.at_ (j := 1) rfl
          have HA2 := HA.trans (A2.mono hxx)
          have hYY : YieldAt Fence.wide 2 Tryd.prog l #[.agg #[x.av, x.wv], .agg #[.slice none 0 0, .slice none 0 0]] w2 (fun e B => e = .returned (.bool true) ∧ J (pre ++ [(x, noRow)]) B ∧ Agree (fun k => k = b7 ∨ n₀ ≤ k) w2 B) := hY pre (x, noRow) w2 (by rw [← HE.out]; simp) (hJ _ wr w2 hJs A2) (by rw [← HE.out]; simp)
          obtain ⟨fn, tmps, assign, body, hy, hC⟩ := hYY
          clear X2 Y2
          gi_wp2
          refine hC.mono ?_
          rintro e W3 ⟨rfl, hJ3, hk3⟩
          have HE3 := Lib.hid (by have := HE.out; rwa [List.append_cons] at this)
          replace G1 := G1.agree hk3 (by omega)
          replace G2 := G2.agree hk3 (by omega)
          have HA3 := HA2.trans (hk3.mono hxy)
          clear HA2 hk3 HE t0 t1 t2 t3 hy hC
          gi_wp2
          gi_roundg ((n - 1) + m)
          case measure => omega
          case rel => exact ⟨_, la, (y :: lb), _, _, by rw [HLA.out, HM.out]; exact Nat.le_refl _, by rw [HLA.out]; omega, by rw [HM.out]; omega, HE3, G1, G2, hJ3, HA3, Lib.hid fun B hB => ⟨RA.out B hB, RB.out B hB⟩⟩
        · by_cases heq : r = 0
          · subst heq
            have HE := Lib.hid (show pre ++ (x, y) :: pairsL la lb = pairsL al bl by have := HP.out; rwa [pairs_eq hr] at this)
            clear hr hlt
            have Ra1 := (HR.out _ (HA.trans (A1.mono hxx))).1
            obtain ⟨_, _, e, c0, c1, -⟩ := Ra1.at_ (i := 0) rfl
            cases e
            simp only [Nat.zero_mul, Nat.add_zero] at c0 c1
            have t0 := G1.at_ (j := 0) rfl
            have t6 := G2.at_ (j := 0) rfl
            have t1 := G1.free 0
            have t2 := X1.at_ (j := 0) rfl
            have t3 := X1.at_ (j := 1) rfl
            have t4 := X1.free 0
            have t5 := X1.free 1
            gi_upto_region 9 with fail
            refine wpIn_wide.2 ?_
            go_region
            obtain ⟨pt, hpt⟩ : ∃ z, (if ca = 1 then some (⟨b, off, none⟩ : Addr) else some ⟨b, off + 2, none⟩) = z := ⟨_, rfl⟩
            rw [hpt]
            have Ta : Hid (∀ B, Agree (fun k => k = b7 ∨ k = g1 ∨ k = g2 ∨ n₀ ≤ k) W B → IsRel B (.slice pt (n - 1) (ca - 1)) la) := Lib.hid fun B hB => by rw [← hpt]; exact (HR.out B hB).1.tail
            have X2 : Cel (((w1.setCell ⟨nx, 0, none⟩ x.av).setCell ⟨nx, 1, none⟩ x.wv).setCell ⟨g1, 0, none⟩ (.slice pt (n - 1) (ca - 1))).drew nx 44 [x.av, x.wv] := (((X1.set 0 x.av).set 1 x.wv).other (p := ⟨g1, 0, none⟩) (by simp only; omega) _)
            have Y2 : Cel (((w1.setCell ⟨nx, 0, none⟩ x.av).setCell ⟨nx, 1, none⟩ x.wv).setCell ⟨g1, 0, none⟩ (.slice pt (n - 1) (ca - 1))).drew (nx + 1) 44 _ := (((Y1.other (p := ⟨nx, 0, none⟩) (by simp only; omega) _).other (p := ⟨nx, 1, none⟩) (by simp only; omega) _).other (p := ⟨g1, 0, none⟩) (by simp only; omega) _)
            have G1' : Cel (((w1.setCell ⟨nx, 0, none⟩ x.av).setCell ⟨nx, 1, none⟩ x.wv).setCell ⟨g1, 0, none⟩ (.slice pt (n - 1) (ca - 1))).drew g1 24 [.slice pt (n - 1) (ca - 1)] := (((G1.other (p := ⟨nx, 0, none⟩) (by simp only; omega) _).other (p := ⟨nx, 1, none⟩) (by simp only; omega) _).set 0 _)
            have G2' : Cel (((w1.setCell ⟨nx, 0, none⟩ x.av).setCell ⟨nx, 1, none⟩ x.wv).setCell ⟨g1, 0, none⟩ (.slice pt (n - 1) (ca - 1))).drew g2 24 _ := (((G2.other (p := ⟨nx, 0, none⟩) (by simp only; omega) _).other (p := ⟨nx, 1, none⟩) (by simp only; omega) _).other (p := ⟨g1, 0, none⟩) (by simp only; omega) _)
            have A2 : Agree (fun k => k = g1 ∨ k = g2) wr (((w1.setCell ⟨nx, 0, none⟩ x.av).setCell ⟨nx, 1, none⟩ x.wv).setCell ⟨g1, 0, none⟩ (.slice pt (n - 1) (ca - 1))).drew := (((A1.setCell (p := ⟨nx, 0, none⟩) (.inr (by simp only; omega)) _).setCell (p := ⟨nx, 1, none⟩) (.inr (by simp only; omega)) _).setCell (p := ⟨g1, 0, none⟩) (.inl (.inl rfl)) _).drew
            clear t0 t1 t2 t3 t4 t5 t6 c0 c1 G1 G2 X1 Y1 A1 hpt Ra1
            have G1 := G1'
            have G2 := G2'
            clear G1' G2'
            generalize World.drew _ = w2 at *
            have Rb2 := (HR.out _ (HA.trans (A2.mono hxx))).2
            obtain ⟨_, _, e, d0, d1, -⟩ := Rb2.at_ (i := 0) rfl
            cases e
            simp only [Nat.zero_mul, Nat.add_zero] at d0 d1
            have t0 := G2.at_ (j := 0) rfl
            have t6 := G1.at_ (j := 0) rfl
            have t1 := G2.free 0
            have t2 := Y2.at_ (j := 0) rfl
            have t3 := Y2.at_ (j := 1) rfl
            have t4 := Y2.free 0
            have t5 := Y2.free 1
            gi_upto_region 11 with fail
            refine wpIn_wide.2 ?_
            go_region
            obtain ⟨pt2, hpt2⟩ : ∃ z, (if cb = 1 then some (⟨b2, off2, none⟩ : Addr) else some ⟨b2, off2 + 2, none⟩) = z := ⟨_, rfl⟩
            rw [hpt2]
            have Tb : Hid (∀ B, Agree (fun k => k = b7 ∨ k = g1 ∨ k = g2 ∨ n₀ ≤ k) W B → IsRel B (.slice pt2 (m - 1) (cb - 1)) lb) := Lib.hid fun B hB => by rw [← hpt2]; exact (HR.out B hB).2.tail
            have Y3 : Cel (((w2.setCell ⟨nx + 1, 0, none⟩ y.av).setCell ⟨nx + 1, 1, none⟩ y.wv).setCell ⟨g2, 0, none⟩ (.slice pt2 (m - 1) (cb - 1))).drew (nx + 1) 44 [y.av, y.wv] := (((Y2.set 0 y.av).set 1 y.wv).other (p := ⟨g2, 0, none⟩) (by simp only; omega) _)
            have X3 : Cel (((w2.setCell ⟨nx + 1, 0, none⟩ y.av).setCell ⟨nx + 1, 1, none⟩ y.wv).setCell ⟨g2, 0, none⟩ (.slice pt2 (m - 1) (cb - 1))).drew nx 44 _ := (((X2.other (p := ⟨nx + 1, 0, none⟩) (by simp only; omega) _).other (p := ⟨nx + 1, 1, none⟩) (by simp only; omega) _).other (p := ⟨g2, 0, none⟩) (by simp only; omega) _)
            have G2' : Cel (((w2.setCell ⟨nx + 1, 0, none⟩ y.av).setCell ⟨nx + 1, 1, none⟩ y.wv).setCell ⟨g2, 0, none⟩ (.slice pt2 (m - 1) (cb - 1))).drew g2 24 [.slice pt2 (m - 1) (cb - 1)] := (((G2.other (p := ⟨nx + 1, 0, none⟩) (by simp only; omega) _).other (p := ⟨nx + 1, 1, none⟩) (by simp only; omega) _).set 0 _)
            have G1' : Cel (((w2.setCell ⟨nx + 1, 0, none⟩ y.av).setCell ⟨nx + 1, 1, none⟩ y.wv).setCell ⟨g2, 0, none⟩ (.slice pt2 (m - 1) (cb - 1))).drew g1 24 _ := (((G1.other (p := ⟨nx + 1, 0, none⟩) (by simp only; omega) _).other (p := ⟨nx + 1, 1, none⟩) (by simp only; omega) _).other (p := ⟨g2, 0, none⟩) (by simp only; omega) _)
            have A3 : Agree (fun k => k = g1 ∨ k = g2) wr (((w2.setCell ⟨nx + 1, 0, none⟩ y.av).setCell ⟨nx + 1, 1, none⟩ y.wv).setCell ⟨g2, 0, none⟩ (.slice pt2 (m - 1) (cb - 1))).drew := (((A2.setCell (p := ⟨nx + 1, 0, none⟩) (.inr (by simp only; omega)) _).setCell (p := ⟨nx + 1, 1, none⟩) (.inr (by simp only; omega)) _).setCell (p := ⟨g2, 0, none⟩) (.inl (.inr rfl)) _).drew
            clear t0 t1 t2 t3 t4 t5 t6 d0 d1 G1 G2 X2 Y2 A2 hpt2 Rb2
            have G1 := G1'
            have G2 := G2'
            clear G1' G2'
            generalize World.drew _ = w3 at *
            have RA := Ta
            have RB := Tb
            have t0 := X3.at_ (j := 0) rfl
            have t1 := X3.at_ (j := 1) rfl
            have t2 := Y3.at_ (j := 0) rfl
            have t3 := Y3.at_ (j := 1) rfl
            have HA2 := HA.trans (A3.mono hxx)
            have hYY : YieldAt Fence.wide 2 Tryd.prog l #[.agg #[x.av, x.wv], .agg #[y.av, y.wv]] w3 (fun e B => e = .returned (.bool true) ∧ J (pre ++ [(x, y)]) B ∧ Agree (fun k => k = b7 ∨ n₀ ≤ k) w3 B) := hY pre (x, y) w3 (by rw [← HE.out]; simp) (hJ _ wr w3 hJs A3) (by rw [← HE.out]; simp)
            obtain ⟨fn, tmps, assign, body, hy, hC⟩ := hYY
            clear X3 Y3
            gi_wp2
            refine hC.mono ?_
            rintro e W3 ⟨rfl, hJ3, hk3⟩
            have HE3 := Lib.hid (by have := HE.out; rwa [List.append_cons] at this)
            replace G1 := G1.agree hk3 (by omega)
            replace G2 := G2.agree hk3 (by omega)
            have HA3 := HA2.trans (hk3.mono hxy)
            clear HA2 hk3 HE t0 t1 t2 t3 hy hC
            gi_wp2
            gi_roundg ((n - 1) + (m - 1))
            case measure => omega
            case rel => exact ⟨_, la, lb, _, _, by rw [HLA.out, HLB.out]; exact Nat.le_refl _, by rw [HLA.out]; omega, by rw [HLB.out]; omega, HE3, G1, G2, hJ3, HA3, Lib.hid fun B hB => ⟨RA.out B hB, RB.out B hB⟩⟩
          · have h1 : 0 < r := by omega
            have h1b : (0 : Int) ≤ r := by omega
            have h1d : ¬ r ≤ 0 := by omega
            have HE := Lib.hid (show pre ++ (argsRow y, y) :: pairsL (x :: la) lb = pairsL al bl by have := HP.out; rwa [pairs_gt (by omega)] at this)
            clear hr hlt heq
            have Rb1 := (HR.out _ (HA.trans (A1.mono hxx))).2
            obtain ⟨_, _, e, d0, d1, -⟩ := Rb1.at_ (i := 0) rfl
            cases e
            simp only [Nat.zero_mul, Nat.add_zero] at d0 d1
            have t0 := G2.at_ (j := 0) rfl
            have t6 := G1.at_ (j := 0) rfl
            have t1 := G2.free 0
            have t2 := Y1.at_ (j := 0) rfl
            have t3 := Y1.at_ (j := 1) rfl
            have t4 := Y1.free 0
            have t5 := Y1.free 1
            gi_upto_region 11 with fail
            refine wpIn_wide.2 ?_
            go_region
            obtain ⟨pt2, hpt2⟩ : ∃ z, (if cb = 1 then some (⟨b2, off2, none⟩ : Addr) else some ⟨b2, off2 + 2, none⟩) = z := ⟨_, rfl⟩
            rw [hpt2]
            have Tb : Hid (∀ B, Agree (fun k => k = b7 ∨ k = g1 ∨ k = g2 ∨ n₀ ≤ k) W B → IsRel B (.slice pt2 (m - 1) (cb - 1)) lb) := Lib.hid fun B hB => by rw [← hpt2]; exact (HR.out B hB).2.tail
            have Y2 : Cel (((w1.setCell ⟨nx + 1, 0, none⟩ y.av).setCell ⟨nx + 1, 1, none⟩ y.wv).setCell ⟨g2, 0, none⟩ (.slice pt2 (m - 1) (cb - 1))).drew (nx + 1) 44 [y.av, y.wv] := (((Y1.set 0 y.av).set 1 y.wv).other (p := ⟨g2, 0, none⟩) (by simp only; omega) _)
            have X2 : Cel (((w1.setCell ⟨nx + 1, 0, none⟩ y.av).setCell ⟨nx + 1, 1, none⟩ y.wv).setCell ⟨g2, 0, none⟩ (.slice pt2 (m - 1) (cb - 1))).drew nx 44 _ := (((X1.other (p := ⟨nx + 1, 0, none⟩) (by simp only; omega) _).other (p := ⟨nx + 1, 1, none⟩) (by simp only; omega) _).other (p := ⟨g2, 0, none⟩) (by simp only; omega) _)
            have G2' : Cel (((w1.setCell ⟨nx + 1, 0, none⟩ y.av).setCell ⟨nx + 1, 1, none⟩ y.wv).setCell ⟨g2, 0, none⟩ (.slice pt2 (m - 1) (cb - 1))).drew g2 24 [.slice pt2 (m - 1) (cb - 1)] := (((G2.other (p := ⟨nx + 1, 0, none⟩) (by simp only; omega) _).other (p := ⟨nx + 1, 1, none⟩) (by simp only; omega) _).set 0 _)
            have G1' : Cel (((w1.setCell ⟨nx + 1, 0, none⟩ y.av).setCell ⟨nx + 1, 1, none⟩ y.wv).setCell ⟨g2, 0, none⟩ (.slice pt2 (m - 1) (cb - 1))).drew g1 24 _ := (((G1.other (p := ⟨nx + 1, 0, none⟩) (by simp only; omega) _).other (p := ⟨nx + 1, 1, none⟩) (by simp only; omega) _).other (p := ⟨g2, 0, none⟩) (by simp only; omega) _)
            have A2 : Agree (fun k => k = g1 ∨ k = g2) wr (((w1.setCell ⟨nx + 1, 0, none⟩ y.av).setCell ⟨nx + 1, 1, none⟩ y.wv).setCell ⟨g2, 0, none⟩ (.slice pt2 (m - 1) (cb - 1))).drew := (((A1.setCell (p := ⟨nx + 1, 0, none⟩) (.inr (by simp only; omega)) _).setCell (p := ⟨nx + 1, 1, none⟩) (.inr (by simp only; omega)) _).setCell (p := ⟨g2, 0, none⟩) (.inl (.inr rfl)) _).drew
            clear t0 t1 t2 t3 t4 t5 t6 d0 d1 G1 G2 X1 Y1 A1 hpt2 Rb1
            have G1 := G1'
            have G2 := G2'
            clear G1' G2'
            generalize World.drew _ = w2 at *
            have t0 := Y2.at_ (j := 0) rfl
            have t2 := X2.at_ (j := 0) rfl
            have t4 := X2.free 0
            have X3 := X2.set 0 y.av
            have Y3 := Y2.other (p := ⟨nx, 0, none⟩) (by simp only; omega) y.av
            replace G1 := G1.other (p := ⟨nx, 0, none⟩) (by simp only; omega) y.av
            replace G2 := G2.other (p := ⟨nx, 0, none⟩) (by simp only; omega) y.av
            have A3 := A2.setCell (p := ⟨nx, 0, none⟩) (.inr (by simp only; omega)) y.av
            gi_upto_region 14 with fail
            clear t0 t2 t4 X2 Y2 A2
            generalize w2.setCell _ _ = w3 at *
            have RA : Hid (∀ B, Agree (fun k => k = b7 ∨ k = g1 ∨ k = g2 ∨ n₀ ≤ k) W B → IsRel B (.slice (some ⟨b, off, none⟩) n ca) (x :: la)) := Lib.hid fun B hB => (HR.out B hB).1
            have RB := Tb
            have t0 := X3.at_ (j := 0) rfl
            have t1 := X3.at_ (j := 1) rfl
            have t2 := Y3.at_ (j := 0) rfl
            have t3 := Y3.at_ (j := 1) rfl
            have HA2 := HA.trans (A3.mono hxx)
            have hYY : YieldAt Fence.wide 2 Tryd.prog l #[.agg #[y.av, .slice none 0 0], .agg #[y.av, y.wv]] w3 (fun e B => e = .returned (.bool true) ∧ J (pre ++ [(argsRow y, y)]) B ∧ Agree (fun k => k = b7 ∨ n₀ ≤ k) w3 B) := hY pre (argsRow y, y) w3 (by rw [← HE.out]; simp) (hJ _ wr w3 hJs A3) (by rw [← HE.out]; simp)
            obtain ⟨fn, tmps, assign, body, hy, hC⟩ := hYY
            clear X3 Y3
            gi_wp2
            refine hC.mono ?_
            rintro e W3 ⟨rfl, hJ3, hk3⟩
            have HE3 := Lib.hid (by have := HE.out; rwa [List.append_cons] at this)
            replace G1 := G1.agree hk3 (by omega)
            replace G2 := G2.agree hk3 (by omega)
            have HA3 := HA2.trans (hk3.mono hxy)
            clear HA2 hk3 HE t0 t1 t2 t3 hy hC
            gi_wp2
            gi_roundg (n + (m - 1))
            case measure => omega
            case rel => exact ⟨_, (x :: la), lb, _, _, by rw [HN.out, HLB.out]; exact Nat.le_refl _, by rw [HN.out]; omega, by rw [HLB.out]; omega, HE3, G1, G2, hJ3, HA3, Lib.hid fun B hB => ⟨RA.out B hB, RB.out B hB⟩⟩
end Go.Proofs.YtdibijhaiaiifaaDoor
