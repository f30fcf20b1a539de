/- The walk of the library's symMerge. -/
import Derived.Test.YtdibijhaiaiifaaDoorSe
namespace Go.Proofs.YtdibijhaiaiifaaDoor
open Go.RowKit
open Go.Sort
set_option maxHeartbeats 4000000 in
set_option maxRecDepth 1000000 in
theorem symMerge_any (wb : World) (G c sz : Nat) (hsz : sz ≤ 1000000) : ∀ (N a m b : Nat) (d : Array RR) (w : World), b - a ≤ N → St wb G d w → d.size = sz → a < m → m < b → b ≤ sz → Hid (SortedIn ltR a m d) → Hid (SortedIn ltR m b d) →
    Calls Tryd.prog 153 #[.slice (some ⟨G, 0, none⟩) sz c, .int .i64 a, .int .i64 m, .int .i64 b, .func (.func 73) #[] #[]] w fun e w' => e = .returned (.tuple #[]) ∧ ∃ d', St wb G d' w' ∧ PermIn a b d d' ∧ SortedIn ltR a b d' := by
  intro N
  induction N with
  | zero => intro a m b d w h1 _ _ h2 h3; omega
  | succ N ih =>
    intro a m b d w hN S hd ham hmb hb H1 H2
    by_cases c1 : m = a + 1
    · have e1 : ((m : Int) - (a : Int) == 1) = true := by rw [beq_iff_eq]; omega
      have HMA := Lib.hid c1
      have HM : Hid (∀ x y, m ≤ x → x ≤ y → y < b → (!ltR d[x]! d[a]!) = true → (!ltR d[y]! d[a]!) = true) := Lib.hid fun x y k1 k2 k3 k4 => by
        have := swoR.ntrans _ _ _ (SortedIn.le H2.out k1 k2 k3) (by simpa using k4)
        simpa using this
      clear ih hN c1 H1
      go_enter Tryd.func153, Tryd.ntmps153
      go_wp2
      go_loopg [10, 11] (b - m) (fun g vi vj wr => ∃ (i j : Nat), vi = .int .i64 i ∧ vj = .int .i64 j ∧ j - i ≤ g ∧ m ≤ i ∧ i ≤ j ∧ j ≤ b ∧ Hid (Srch (fun x => !ltR d[x]! d[a]!) m b i j) ∧ St wb G d wr)
      case atStart => exact ⟨m, b, rfl, rfl, Nat.le_refl _, Nat.le_refl _, by omega, Nat.le_refl _, Lib.hid (Srch.start _ (by omega)), S⟩
      case round =>
        clear S
        obtain ⟨i, j, rfl, rfl, hg, hmi, hij, hjb, F, S⟩ := hrel
        by_cases hlt : i < j
        · have hltz : (i : Int) < (j : Int) := by omega
          obtain ⟨h, hh⟩ : ∃ h, h = (i + j) / 2 := ⟨_, rfl⟩
          have hs : ((i : Int) + (j : Int)) / 2 = (h : Int) := by omega
          have ih1 : i ≤ h := by omega
          have ih2 : h < j := by omega
          have HH := Lib.hid hh
          clear hh
          have hd1 : h < d.size := by omega
          have hd2 : a < d.size := by omega
          obtain ⟨a0, a1⟩ := S.cells hd1
          obtain ⟨b0, b1⟩ := S.cells hd2
          have rx := S.row hd1
          have ry := S.row hd2
          have FU := Lib.hid (fun q : (!ltR d[h]! d[a]!) = false => F.out.up HM.out ih1 ih2 q)
          have FD := Lib.hid (fun q : (!ltR d[h]! d[a]!) = true => F.out.down HM.out ih1 ih2 q)
          generalize hx : d[h]! = x at *
          generalize hy : d[a]! = y at *
          replace a0 := After.cell a0
          replace a1 := After.cell a1
          replace b0 := After.cell b0
          replace b1 := After.cell b1
          obtain ⟨r, hr⟩ : ∃ r, cmpT x.t y.t = r := ⟨_, rfl⟩
          have hz : (h : Int) < (sz : Int) := by omega
          have az : (a : Int) < (sz : Int) := by omega
          have HX := Lib.hid hx
          have HY := Lib.hid hy
          clear hx hy
          go_upto_region 5 with fail
          refine wp_region_after (by kernel_rfl) (by kernel_rfl) ?_
          repeat (quiet_step ((go_at_call 73; exact byArgs_after rx ry _)))
          refine wpQuiet_nil ?_
          intro w2 hg2
          replace S := S.grew hg2
          clear a0 a1 b0 b1
          by_cases hlv : r < 0
          · have HN := Lib.hid (FU.out (by unfold ltR; rw [hr, decide_eq_true hlv]; rfl))
            go_wp2
            go_roundg (j - (h + 1))
            case measure => omega
            case rel => exact ⟨h + 1, j, by go_num, rfl, Nat.le_refl _, by omega, by omega, hjb, HN, S⟩
          · have HN := Lib.hid (FD.out (by unfold ltR; rw [hr, decide_eq_false hlv]; rfl))
            go_wp2
            go_roundg (h - i)
            case measure => omega
            case rel => exact ⟨i, h, rfl, rfl, Nat.le_refl _, hmi, ih1, by omega, HN, S⟩
        · have hltz : ¬ (i : Int) < (j : Int) := by omega
          have eij : j = i := by omega
          subst eij
          clear hg hij hlt
          go_wp2
          go_loopg [13] (j - 1 - a) (fun g vk wr => ∃ (k : Nat) (dk : Array RR), vk = .int .i64 k ∧ j - 1 - k ≤ g ∧ a ≤ k ∧ k ≤ j - 1 ∧ dk.size = sz ∧ Hid (Up1 a b k d dk) ∧ St wb G dk wr)
          case atStart => exact ⟨a, d, rfl, Nat.le_refl _, Nat.le_refl _, by omega, hd, Lib.hid (Up1.start a b d), S⟩
          case round =>
            clear S
            obtain ⟨k, dk, rfl, hg, hak, hki, hdk, U, S⟩ := hrel
            by_cases hlt : k < j - 1
            · have hltz : (k : Int) < (j : Int) - 1 := by omega
              have h1d : k < dk.size := by omega
              have h2d : k + 1 < dk.size := by omega
              obtain ⟨a0, a1⟩ := S.cells h1d
              obtain ⟨b0, b1⟩ := S.cells h2d
              have S3 := Lib.hid (S.swap (i := k) (j := k + 1) h1d h2d)
              have UN := Lib.hid (U.out.step hak (by omega) (by omega))
              have f0 := S.free (k * 2)
              have f1 := S.free (k * 2 + 1)
              have f2 := S.free ((k + 1) * 2)
              have f3 := S.free ((k + 1) * 2 + 1)
              generalize dk[k]! = x at *
              generalize dk[k + 1]! = y at *
              have kz : (k : Int) < (sz : Int) := by omega
              have kz1 : (k : Int) + 1 < (sz : Int) := by omega
              have kz2 : ((k : Int) + 1).toNat = k + 1 := by omega
              go_upto_region 11 with fail
              go_region
              replace S3 := S3.out.grew (Grew.refl _).drew
              clear a0 a1 b0 b1 f0 f1 f2 f3 S
              generalize World.drew _ = w3 at S3 ⊢
              go_wp2
              go_roundg (j - 1 - (k + 1))
              case measure => omega
              case rel => exact ⟨k + 1, _, by go_num, Nat.le_refl _, by omega, by omega, by rw [size_swp]; exact hdk, UN, S3⟩
            · have hltz : ¬ (k : Int) < (j : Int) - 1 := by omega
              have ek : k = j - 1 := by omega
              subst ek
              have HS := Lib.hid (merged1 (by have := H2.out; rw [HMA.out] at this; exact this) (by rw [← HMA.out]; exact F.out) U.out)
              go_wp2
              refine bodyPost_ret (results_none (by kernel_rfl) _ _ _) rfl ?_
              exact ⟨rfl, dk, S, U.out.perm, HS.out⟩
    · by_cases c2 : b = m + 1
      · have e0 : ((m : Int) - (a : Int) == 1) = false := by rw [beq_eq_false_iff_ne]; omega
        have e1 : ((b : Int) - (m : Int) == 1) = true := by rw [beq_iff_eq]; omega
        have HM : Hid (∀ x y, a ≤ x → x ≤ y → y < m → ltR d[m]! d[x]! = true → ltR d[m]! d[y]! = true) := Lib.hid fun x y k1 k2 k3 k4 => lt_le k4 (SortedIn.le H1.out k1 k2 k3)
        have HMA := Lib.hid c2
        clear ih hN c1 c2 H2
        go_enter Tryd.func153, Tryd.ntmps153
        go_wp2
        go_loopg [14, 15] (m - a) (fun g vi vj wr => ∃ (i j : Nat), vi = .int .i64 i ∧ vj = .int .i64 j ∧ j - i ≤ g ∧ a ≤ i ∧ i ≤ j ∧ j ≤ m ∧ Hid (Srch (fun x => ltR d[m]! d[x]!) a m i j) ∧ St wb G d wr)
        case atStart => exact ⟨a, m, rfl, rfl, Nat.le_refl _, Nat.le_refl _, by omega, Nat.le_refl _, Lib.hid (Srch.start _ (by omega)), S⟩
        case round =>
          clear S
          obtain ⟨i, j, rfl, rfl, hg, hmi, hij, hjb, F, S⟩ := hrel
          by_cases hlt : i < j
          · have hltz : (i : Int) < (j : Int) := by omega
            obtain ⟨h, hh⟩ : ∃ h, h = (i + j) / 2 := ⟨_, rfl⟩
            have hs : ((i : Int) + (j : Int)) / 2 = (h : Int) := by omega
            have ih1 : i ≤ h := by omega
            have ih2 : h < j := by omega
            have HH := Lib.hid hh
            clear hh
            have hd1 : m < d.size := by omega
            have hd2 : h < d.size := by omega
            obtain ⟨a0, a1⟩ := S.cells hd1
            obtain ⟨b0, b1⟩ := S.cells hd2
            have rx := S.row hd1
            have ry := S.row hd2
            have FU := Lib.hid (fun q : ltR d[m]! d[h]! = false => F.out.up HM.out ih1 ih2 q)
            have FD := Lib.hid (fun q : ltR d[m]! d[h]! = true => F.out.down HM.out ih1 ih2 q)
            generalize hx : d[m]! = x at *
            generalize hy : d[h]! = y at *
            replace a0 := After.cell a0
            replace a1 := After.cell a1
            replace b0 := After.cell b0
            replace b1 := After.cell b1
            obtain ⟨r, hr⟩ : ∃ r, cmpT x.t y.t = r := ⟨_, rfl⟩
            have hz : (h : Int) < (sz : Int) := by omega
            have az : (m : Int) < (sz : Int) := by omega
            have HX := Lib.hid hx
            have HY := Lib.hid hy
            clear hx hy
            go_upto_region 17 with fail
            refine wp_region_after (by kernel_rfl) (by kernel_rfl) ?_
            repeat (quiet_step ((go_at_call 73; exact byArgs_after rx ry _)))
            refine wpQuiet_nil ?_
            intro w2 hg2
            replace S := S.grew hg2
            clear a0 a1 b0 b1
            by_cases hlv : r < 0
            · have HN := Lib.hid (FD.out (by unfold ltR; rw [hr, decide_eq_true hlv]))
              rw [decide_eq_true hlv]
              go_wp2
              go_roundg (h - i)
              case measure => omega
              case rel => exact ⟨i, h, rfl, rfl, Nat.le_refl _, hmi, ih1, by omega, HN, S⟩
            · have HN := Lib.hid (FU.out (by unfold ltR; rw [hr, decide_eq_false hlv]))
              rw [decide_eq_false hlv]
              go_wp2
              go_roundg (j - (h + 1))
              case measure => omega
              case rel => exact ⟨h + 1, j, by go_num, rfl, Nat.le_refl _, by omega, by omega, hjb, HN, S⟩
          · have hltz : ¬ (i : Int) < (j : Int) := by omega
            have eij : j = i := by omega
            subst eij
            clear hg hij hlt
            go_wp2
            go_loopg [17] (m - j) (fun g vk wr => ∃ (k : Nat) (dk : Array RR), vk = .int .i64 k ∧ k - j ≤ g ∧ j ≤ k ∧ k ≤ m ∧ dk.size = sz ∧ Hid (Dn1 a m k d dk) ∧ St wb G dk wr)
            case atStart => exact ⟨m, d, rfl, Nat.le_refl _, hjb, Nat.le_refl _, hd, Lib.hid (Dn1.start a m d), S⟩
            case round =>
              clear S
              obtain ⟨k, dk, rfl, hg, hjk, hkm, hdk, U, S⟩ := hrel
              by_cases hlt : j < k
              · obtain ⟨kp, rfl⟩ : ∃ kp, k = kp + 1 := ⟨k - 1, by omega⟩
                have h1d : kp + 1 < dk.size := by omega
                have h2d : kp < dk.size := by omega
                obtain ⟨a0, a1⟩ := S.cells h1d
                obtain ⟨b0, b1⟩ := S.cells h2d
                have S3 := Lib.hid (S.swap (i := kp + 1) (j := kp) h1d h2d)
                have UN := Lib.hid (U.out.step (by omega) (by omega) (by omega))
                have f0 := S.free (kp * 2)
                have f1 := S.free (kp * 2 + 1)
                have f2 := S.free ((kp + 1) * 2)
                have f3 := S.free ((kp + 1) * 2 + 1)
                generalize dk[kp + 1]! = x at *
                generalize dk[kp]! = y at *
                have ltz : (j : Int) < (kp : Int) + 1 := by omega
                have kz : (kp : Int) < (sz : Int) := by omega
                have kz1 : (kp : Int) + 1 < (sz : Int) := by omega
                have kz2 : ((kp : Int) + 1).toNat = kp + 1 := by omega
                go_upto_region 23 with fail
                go_region
                replace S3 := S3.out.grew (Grew.refl _).drew
                clear a0 a1 b0 b1 f0 f1 f2 f3 S
                generalize World.drew _ = w3 at S3 ⊢
                go_wp2
                go_roundg (kp - j)
                case measure => omega
                case rel => exact ⟨kp, _, by go_num, Nat.le_refl _, by omega, by omega, by rw [size_swp]; exact hdk, UN, S3⟩
              · have hltz : ¬ (j : Int) < (k : Int) := by omega
                have ek : k = j := by omega
                subst ek
                have HS := Lib.hid (merged2 H1.out F.out U.out)
                rw [← HMA.out] at HS
                have HP := Lib.hid U.out.perm
                rw [← HMA.out] at HP
                go_wp2
                refine bodyPost_ret (results_none (by kernel_rfl) _ _ _) rfl ?_
                exact ⟨rfl, dk, S, HP.out, HS.out⟩
      · have e0 : ((m : Int) - (a : Int) == 1) = false := by rw [beq_eq_false_iff_ne]; omega
        have e1 : ((b : Int) - (m : Int) == 1) = false := by rw [beq_eq_false_iff_ne]; omega
        obtain ⟨mid, hmid⟩ : ∃ mid, mid = (a + b) / 2 := ⟨_, rfl⟩
        have hmz : ((a : Int) + (b : Int)) / 2 = (mid : Int) := by omega
        have hm1 : a < mid := by omega
        have hm2 : mid < b := by omega
        have HMID := Lib.hid hmid
        clear hmid c1 c2
        go_enter Tryd.func153, Tryd.ntmps153
        go_upto_if 140 with fail
        go_cut [20, 21] from 140 to 146 (fun v20 v21 wx => ∃ (lo hi : Nat), v20 = .int .i64 lo ∧ v21 = .int .i64 hi ∧ lo ≤ hi ∧ hi ≤ m ∧ hi ≤ mid ∧ Hid (Lm a m b mid lo hi) ∧ St wb G d wx)
        case first =>
          by_cases hc : mid < m
          · have hcz : (mid : Int) < (m : Int) := by omega
            have hcz2 : (mid : Int) + (m : Int) - (b : Int) = ((mid + m - b : Nat) : Int) := by have := HMID.out; omega
            have HL : Hid (Lm a m b mid (mid + m - b) mid) := Lib.hid ⟨ham, hmb, HMID.out, by omega, .inl ⟨hc, rfl, rfl⟩⟩
            go_wp2
            go_meet
            case rel => exact ⟨mid + m - b, mid, rfl, rfl, by omega, by omega, Nat.le_refl _, HL, S⟩
          · have hcz : ¬ (mid : Int) < (m : Int) := by omega
            have HL : Hid (Lm a m b mid a m) := Lib.hid ⟨ham, hmb, HMID.out, by omega, .inr ⟨by omega, rfl, rfl⟩⟩
            go_wp2
            go_meet
            case rel => exact ⟨a, m, rfl, rfl, by omega, Nat.le_refl _, by omega, HL, S⟩
        case rest =>
          clear S
          obtain ⟨lo, hi, rfl, rfl, hlh, hhm, hhd, L, S⟩ := hcut
          have MN := Lib.hid (L.out.mono H1.out H2.out)
          go_wp2
          go_loopg [20, 21] (hi - lo) (fun g vi vj wr => ∃ (i j : Nat), vi = .int .i64 i ∧ vj = .int .i64 j ∧ j - i ≤ g ∧ lo ≤ i ∧ i ≤ j ∧ j ≤ hi ∧ Hid (Srch (fun x => ltR d[mid + m - 1 - x]! d[x]!) lo hi i j) ∧ St wb G d wr)
          case atStart => exact ⟨lo, hi, rfl, rfl, Nat.le_refl _, Nat.le_refl _, hlh, Nat.le_refl _, Lib.hid (Srch.start _ hlh), S⟩
          case round =>
            clear S
            obtain ⟨i, j, rfl, rfl, hg, hmi, hij, hjb, F, S⟩ := hrel
            by_cases hlt : i < j
            · have hltz : (i : Int) < (j : Int) := by omega
              obtain ⟨h, hh⟩ : ∃ h, h = (i + j) / 2 := ⟨_, rfl⟩
              have hs : ((i : Int) + (j : Int)) / 2 = (h : Int) := by omega
              have ih1 : i ≤ h := by omega
              have ih2 : h < j := by omega
              have HH := Lib.hid hh
              clear hh
              obtain ⟨q, hq⟩ : ∃ q, q = mid + m - 1 - h := ⟨_, rfl⟩
              have hqz : (mid : Int) + (m : Int) - 1 - (h : Int) = (q : Int) := by omega
              have hqb : q < b := by rcases L.out.cs with k | k <;> have := HMID.out <;> omega
              have hd1 : q < d.size := by omega
              have hd2 : h < d.size := by omega
              obtain ⟨a0, a1⟩ := S.cells hd1
              obtain ⟨b0, b1⟩ := S.cells hd2
              have rx := S.row hd1
              have ry := S.row hd2
              have FU := Lib.hid (fun k : ltR d[mid + m - 1 - h]! d[h]! = false => F.out.up MN.out ih1 ih2 k)
              have FD := Lib.hid (fun k : ltR d[mid + m - 1 - h]! d[h]! = true => F.out.down MN.out ih1 ih2 k)
              rw [← hq] at FU FD
              have HQ := Lib.hid hq
              clear hq
              generalize hx : d[q]! = x at *
              generalize hy : d[h]! = y at *
              replace a0 := After.cell a0
              replace a1 := After.cell a1
              replace b0 := After.cell b0
              replace b1 := After.cell b1
              obtain ⟨r, hr⟩ : ∃ r, cmpT x.t y.t = r := ⟨_, rfl⟩
              have hz : (h : Int) < (sz : Int) := by omega
              have qz : (q : Int) < (sz : Int) := by omega
              have qw : IntKind.i64.wrap (q : Int) = (q : Int) := by rw [IntKind.wrap_i64]; omega
              have HX := Lib.hid hx
              have HY := Lib.hid hy
              clear hx hy
              go_upto_region 35 with fail
              refine wp_region_after (by kernel_rfl) (by kernel_rfl) ?_
              repeat (quiet_step ((go_at_call 73; exact byArgs_after rx ry _)))
              refine wpQuiet_nil ?_
              intro w2 hg2
              replace S := S.grew hg2
              clear a0 a1 b0 b1
              by_cases hlv : r < 0
              · have HN := Lib.hid (FD.out (by unfold ltR; rw [hr, decide_eq_true hlv]))
                rw [decide_eq_true hlv]
                go_wp2
                go_roundg (h - i)
                case measure => omega
                case rel => exact ⟨i, h, rfl, rfl, Nat.le_refl _, hmi, ih1, by omega, HN, S⟩
              · have HN := Lib.hid (FU.out (by unfold ltR; rw [hr, decide_eq_false hlv]))
                rw [decide_eq_false hlv]
                go_wp2
                go_roundg (j - (h + 1))
                case measure => omega
                case rel => exact ⟨h + 1, j, by go_num, rfl, Nat.le_refl _, by omega, by omega, hjb, HN, S⟩
            · have hltz : ¬ (i : Int) < (j : Int) := by omega
              have eij : j = i := by omega
              subst eij
              obtain ⟨s1, s2, s3, s4, s5, s6, s7⟩ := L.out.ends F.out
              obtain ⟨e, he⟩ : ∃ e, e = mid + m - j := ⟨_, rfl⟩
              have hez : (mid : Int) + (m : Int) - (j : Int) = (e : Int) := by omega
              have CR := Lib.hid (fun d' (R : Rtd j m (mid + m - j) d d') => L.out.cross H1.out H2.out F.out R)
              rw [← he] at s3 s4 s6 CR
              have HE := Lib.hid he
              have hes : (e : Int) < (sz : Int) + 1 := by omega
              clear he F L MN H1 H2 hg hij hlt hltz hjb
              obtain ⟨q1, Q1⟩ : ∃ q1, Hid (q1 = (decide (j < m) && decide (m < e))) := ⟨_, rfl⟩
              go_upto_region 39 with fail
              go_cut [185] from 178 to 185 (fun v wx => v = .bool q1 ∧ wr = wx)
              case first =>
                by_cases k1 : j < m
                · have k1z : (j : Int) < (m : Int) := by omega
                  by_cases k2 : m < e
                  · have k2z : (m : Int) < (e : Int) := by omega
                    obtain rfl : q1 = true := by rw [Q1.out]; simp [k1, k2]
                    clear k1 k2
                    go_wp2
                    go_meet
                    case rel => exact ⟨rfl, rfl⟩
                  · have k2z : ¬ (m : Int) < (e : Int) := by omega
                    obtain rfl : q1 = false := by rw [Q1.out]; simp [k1, k2]
                    clear k1 k2
                    go_wp2
                    go_meet
                    case rel => exact ⟨rfl, rfl⟩
                · have k1z : ¬ (j : Int) < (m : Int) := by omega
                  obtain rfl : q1 = false := by rw [Q1.out]; simp [k1]
                  clear k1
                  go_wp2
                  go_meet
                  case rel => exact ⟨rfl, rfl⟩
              case rest =>
                obtain ⟨rfl, hwx⟩ := hcut
                subst hwx
                go_upto_if 185 with fail
                go_cut [191] from 185 to 191 (fun v wx => ∃ d2, St wb G d2 wx ∧ Hid (Rtd j m e d d2))
                case first =>
                  cases q1
                  · have R0 := Lib.hid (Rtd.none (d := d) s2 s3 (by have := Q1.out; simpa using this))
                    go_wp2
                    go_meet
                    case rel => exact ⟨d, S, R0⟩
                  · have K : j < m ∧ m < e := by have := Q1.out; simpa using this
                    obtain ⟨k1, k2⟩ := K
                    go_wp2_with fail
                    have hC := rotate_any wb G c j m e d _ S k1 k2 (by omega) (by omega)
                    rw [hd] at hC
                    refine hC.mono ?_
                    rintro e w1 ⟨rfl, d2, S2, R2⟩
                    have R0 := Lib.hid (Rtd.of k1 k2 R2)
                    clear k1 k2
                    go_wp2
                    go_meet
                    case rel => exact ⟨d2, S2, R0⟩
                case rest =>
                  clear S Q1
                  obtain ⟨d2, S, R⟩ := hcut
                  have hR := R.out.perm
                  obtain ⟨C0, C1, C2, C3, C4⟩ := CR.out _ R.out
                  have hd2 : d2.size = sz := hR.1.trans hd
                  have P2 := Lib.hid (permIn_mono _ _ _ _ a b s1 s4 (by omega) hR)
                  replace C0 := Lib.hid C0
                  replace C1 := Lib.hid C1
                  replace C2 := Lib.hid C2
                  replace C3 := Lib.hid C3
                  replace C4 := Lib.hid C4
                  clear hR R CR
                  obtain ⟨q2, Q2⟩ : ∃ q2, Hid (q2 = (decide (a < j) && decide (j < mid))) := ⟨_, rfl⟩
                  go_upto_region 41 with fail
                  go_cut [199] from 192 to 199 (fun v wx => v = .bool q2 ∧ _ = wx)
                  case first =>
                    by_cases k1 : a < j
                    · have k1z : (a : Int) < (j : Int) := by omega
                      by_cases k2 : j < mid
                      · have k2z : (j : Int) < (mid : Int) := by omega
                        obtain rfl : q2 = true := by rw [Q2.out]; simp [k1, k2]
                        clear k1 k2
                        go_wp2
                        go_meet
                        case rel => exact ⟨rfl, rfl⟩
                      · have k2z : ¬ (j : Int) < (mid : Int) := by omega
                        obtain rfl : q2 = false := by rw [Q2.out]; simp [k1, k2]
                        clear k1 k2
                        go_wp2
                        go_meet
                        case rel => exact ⟨rfl, rfl⟩
                    · have k1z : ¬ (a : Int) < (j : Int) := by omega
                      obtain rfl : q2 = false := by rw [Q2.out]; simp [k1]
                      clear k1
                      go_wp2
                      go_meet
                      case rel => exact ⟨rfl, rfl⟩
                  case rest =>
                    obtain ⟨rfl, hwx⟩ := hcut
                    subst hwx
                    go_upto_if 199 with fail
                    go_cut [205] from 199 to 205 (fun v wx => ∃ d3, St wb G d3 wx ∧ Hid (PermIn a mid d2 d3) ∧ Hid (SortedIn ltR a mid d3))
                    case first =>
                      cases q2
                      · have HS := Lib.hid (half_none C1.out C2.out (by have := Q2.out; simp at this; omega) s1 s5)
                        have HP := Lib.hid (permIn_refl d2 a mid)
                        go_wp2
                        go_meet
                        case rel => exact ⟨d2, S, HP, HS⟩
                      · have K : a < j ∧ j < mid := by have := Q2.out; simpa using this
                        obtain ⟨k1, k2⟩ := K
                        go_wp2_with fail
                        refine (ih a j mid d2 _ (by omega) S hd2 k1 k2 (by omega) C1 C2).mono ?_
                        rintro e w1 ⟨rfl, d3, S3, P3, S4⟩
                        replace P3 := Lib.hid P3
                        replace S4 := Lib.hid S4
                        clear k1 k2
                        go_wp2
                        go_meet
                        case rel => exact ⟨d3, S3, P3, S4⟩
                    case rest =>
                      clear S Q2
                      obtain ⟨d3, S, P3, S3⟩ := hcut
                      have hd3 : d3.size = sz := P3.out.1.trans hd2
                      replace C0 := Lib.hid (C0.out.left (by omega) (by omega) P3.out)
                      replace C3 := Lib.hid (SortedIn.same C3.out (d' := d3) fun x k1 k2 => P3.out.2.1 x (.inr k1))
                      replace C4 := Lib.hid (SortedIn.same C4.out (d' := d3) fun x k1 k2 => P3.out.2.1 x (.inr (by omega)))
                      replace P2 := Lib.hid (permIn_trans _ _ _ _ _ P2.out (permIn_mono _ _ _ _ a b (Nat.le_refl _) (by omega) (by omega) P3.out))
                      clear C1 C2 P3
                      obtain ⟨q3, Q3⟩ : ∃ q3, Hid (q3 = (decide (mid < e) && decide (e < b))) := ⟨_, rfl⟩
                      go_upto_region 43 with fail
                      go_cut [213] from 206 to 213 (fun v wx => v = .bool q3 ∧ _ = wx)
                      case first =>
                        by_cases k1 : mid < e
                        · have k1z : (mid : Int) < (e : Int) := by omega
                          by_cases k2 : e < b
                          · have k2z : (e : Int) < (b : Int) := by omega
                            obtain rfl : q3 = true := by rw [Q3.out]; simp [k1, k2]
                            clear k1 k2
                            go_wp2
                            go_meet
                            case rel => exact ⟨rfl, rfl⟩
                          · have k2z : ¬ (e : Int) < (b : Int) := by omega
                            obtain rfl : q3 = false := by rw [Q3.out]; simp [k1, k2]
                            clear k1 k2
                            go_wp2
                            go_meet
                            case rel => exact ⟨rfl, rfl⟩
                        · have k1z : ¬ (mid : Int) < (e : Int) := by omega
                          obtain rfl : q3 = false := by rw [Q3.out]; simp [k1]
                          clear k1
                          go_wp2
                          go_meet
                          case rel => exact ⟨rfl, rfl⟩
                      case rest =>
                        obtain ⟨rfl, hwx⟩ := hcut
                        subst hwx
                        go_upto_if 213 with fail
                        cases q3
                        · have HS0 := Lib.hid (half_none C3.out C4.out (by have := Q3.out; simp at this; omega) s6 s4)
                          have HS := Lib.hid (C0.out.sorted S3.out HS0.out)
                          go_wp2
                          go_end0
                          exact ⟨rfl, d3, S, P2.out, HS.out⟩
                        · have K : mid < e ∧ e < b := by have := Q3.out; simpa using this
                          obtain ⟨k1, k2⟩ := K
                          go_wp2_with fail
                          refine (ih mid e b d3 _ (by omega) S hd3 k1 k2 (by omega) C3 C4).mono ?_
                          rintro e w1 ⟨rfl, d4, S4, P4, S5⟩
                          have HP := Lib.hid (permIn_trans _ _ _ _ _ P2.out (permIn_mono _ _ _ _ a b (by omega) (Nat.le_refl _) (by omega) P4))
                          have HS := Lib.hid ((C0.out.right (by omega) P4).sorted (SortedIn.same S3.out fun x k1 k2 => P4.2.1 x (.inl k2)) S5)
                          clear P4 S5 k1 k2
                          go_wp2
                          go_end0
                          exact ⟨rfl, d4, S4, HP.out, HS.out⟩
end Go.Proofs.YtdibijhaiaiifaaDoor
