/- The walk of the laws' fixed examples. -/
import Derived.Test.YtnibgmmoebmnlaaWq
import Derived.Deep.RegionHeld3
import Derived.Deep.CutRange
namespace Go.Proofs.Ytnibgmmoebmnlaa
open Go.RowKit
attribute [local irreducible] LitOk
set_option maxHeartbeats 4000000 in
set_option maxRecDepth 100000 in
theorem head_any (w : World) : Calls Try.prog 10 #[] w fun e w' => e = .returned (.bool true) ∧ Below w.heap.size w w' := by
  obtain ⟨w0, hw0⟩ : ∃ w0, w = w0 := ⟨_, rfl⟩
  subst hw0
  go_enter Try.func10, Try.ntmps10
  go_wp2_with fail
  refine (variable_any (nm 88) _).mono ?_
  rintro e w1 ⟨he, b1⟩
  change e = .returned (.agg #[.string ⟨#[88]⟩, .int .i64 0, .int .i64 0, .string ⟨#[]⟩]) at he
  subst he
  go_upto_region 2 with fail
  have tx2 := termAt_new (w := w1) (x := 88)
  have b2 := b1.alloc b1.size (.cells #[.string ⟨#[88]⟩, .int .i64 0, .int .i64 0, .string ⟨#[]⟩] 69)
  generalize w1.alloc (.cells #[.string ⟨#[88]⟩, .int .i64 0, .int .i64 0, .string ⟨#[]⟩] 69) = w2 at *
  generalize w1.heap.size = nx at *
  clear b1
  go_wp2_with fail
  refine (variable_any (nm 89) _).mono ?_
  rintro e w3 ⟨he, b3⟩
  change e = .returned (.agg #[.string ⟨#[89]⟩, .int .i64 0, .int .i64 0, .string ⟨#[]⟩]) at he
  subst he
  go_upto_region 3 with fail
  have ty4 := termAt_new (w := w3) (x := 89)
  have n4 := below_new w3 (.cells #[.string ⟨#[89]⟩, .int .i64 0, .int .i64 0, .string ⟨#[]⟩] 69)
  have tx4 := (tx2.keep b3).keep n4
  have b4 := below_trans (below_trans b2 b3) n4
  generalize w3.alloc (.cells #[.string ⟨#[89]⟩, .int .i64 0, .int .i64 0, .string ⟨#[]⟩] 69) = w4 at *
  clear n4 b3 b2 tx2
  generalize w3.heap.size = ny at *
  obtain ⟨x0, x1, x2, x3⟩ := id tx4
  go_wp2_with fail
  refine (lit_any 1 0 _ [tX] _ (terms_new w4 [tX] (by decide))).mono ?_
  rintro e w5 ⟨he, ha5, b5⟩
  change e = .returned (.agg #[.int .i64 1, .string ⟨#[112]⟩, .int .i64 0, .slice (some ⟨w4.heap.size, 0, none⟩) 1 1, .string ⟨#[]⟩, .string ⟨#[]⟩, .int .i64 0, .int .i64 0, .int .i64 0]) at he
  subst he
  clear x0 x1 x2 x3
  go_upto_region 4 with fail
  have ly6 := litAt_new (w := w5) (k := 1) (o := 0) (v := .slice (some ⟨w4.heap.size, 0, none⟩) 1 1)
  have n6 := below_new w5 (.cells #[.int .i64 1, .string ⟨#[112]⟩, .int .i64 0, .slice (some ⟨w4.heap.size, 0, none⟩) 1 1, .string ⟨#[]⟩, .string ⟨#[]⟩, .int .i64 0, .int .i64 0, .int .i64 0] 58)
  have b56 := below_trans (below_trans (below_new w4 (.cells ([tX].flatMap encT).toArray 69)) b5) n6
  have tx6 := tx4.keep b56
  have ty6 := ty4.keep b56
  have b6 := below_trans b4 b56
  have ha6 := ha5.keep (keeps_below n6)
  generalize w5.alloc (.cells #[.int .i64 1, .string ⟨#[112]⟩, .int .i64 0, .slice (some ⟨w4.heap.size, 0, none⟩) 1 1, .string ⟨#[]⟩, .string ⟨#[]⟩, .int .i64 0, .int .i64 0, .int .i64 0] 58) = w6 at *
  clear n6 b56 b5 tx4 ty4 b4 ha5
  generalize w5.heap.size = n3 at *
  generalize w4.heap.size = na at *
  obtain ⟨x0, x1, x2, x3⟩ := id tx6
  go_wp2_with fail
  refine (lit_any 2 0 _ [tX] _ (terms_new w6 [tX] (by decide))).mono ?_
  rintro e w7 ⟨he, hb7, b7⟩
  change e = .returned (.agg #[.int .i64 2, .string ⟨#[112]⟩, .int .i64 0, .slice (some ⟨w6.heap.size, 0, none⟩) 1 1, .string ⟨#[]⟩, .string ⟨#[]⟩, .int .i64 0, .int .i64 0, .int .i64 0]) at he
  subst he
  clear x0 x1 x2 x3
  go_upto_region 5 with fail
  have ln8 := litAt_new (w := w7) (k := 2) (o := 0) (v := .slice (some ⟨w6.heap.size, 0, none⟩) 1 1)
  have n8 := below_new w7 (.cells #[.int .i64 2, .string ⟨#[112]⟩, .int .i64 0, .slice (some ⟨w6.heap.size, 0, none⟩) 1 1, .string ⟨#[]⟩, .string ⟨#[]⟩, .int .i64 0, .int .i64 0, .int .i64 0] 58)
  have b78 := below_trans (below_trans (below_new w6 (.cells ([tX].flatMap encT).toArray 69)) b7) n8
  have tx8 := tx6.keep b78
  have ty8 := ty6.keep b78
  have ly8 := ly6.keep b78
  have b8 := below_trans b6 b78
  have ha8 := ha6.keep (keeps_below b78)
  have hb8 := hb7.keep (keeps_below n8)
  generalize w7.alloc (.cells #[.int .i64 2, .string ⟨#[112]⟩, .int .i64 0, .slice (some ⟨w6.heap.size, 0, none⟩) 1 1, .string ⟨#[]⟩, .string ⟨#[]⟩, .int .i64 0, .int .i64 0, .int .i64 0] 58) = w8 at *
  clear n8 b78 b7 tx6 ty6 ly6 b6 ha6 hb7
  generalize w7.heap.size = n4 at *
  generalize w6.heap.size = nb at *
  have hl3 := lit_lt ly8
  have hl4 := lit_lt ln8
  obtain ⟨p0, p1, p2, p3, p4, p5, p6, p7, p8⟩ := id ly8
  obtain ⟨q0, q1, q2, q3, q4, q5, q6, q7, q8⟩ := id ln8
  go_wp2_with fail
  refine (first_order w8 na nb ha8 hb8).mono ?_
  rintro e w9 ⟨rfl, b9⟩
  obtain ⟨r0, r1, r2, r3, r4, r5, r6, r7, r8⟩ := ln8.keep b9
  have hl4' := lit_lt (ln8.keep b9)
  go_wp2_with fail
  refine (second_order w9 nb (hb8.keep (keeps_below b9))).mono ?_
  rintro e w10 ⟨rfl, b10⟩
  clear r0 r1 r2 r3 r4 r5 r6 r7 r8 p0 p1 p2 p3 p4 p5 p6 p7 p8 q0 q1 q2 q3 q4 q5 q6 q7 q8
  go_upto_region 6 with fail
  have b810 := below_trans b9 b10
  have tx10 := tx8.keep b810
  have ty10 := ty8.keep b810
  have ly10 := ly8.keep b810
  have ln10 := ln8.keep b810
  have ha10 := ha8.keep (keeps_below b810)
  have hb10 := hb8.keep (keeps_below b810)
  have bb10 := below_trans b8 b810
  clear b9 b10 b810 tx8 ty8 ly8 ln8 ha8 hb8 b8 hl3 hl4 hl4'
  go_cut [6] from 35 to 46 (fun v6 wx => v6 = .bool true ∧ Below w10.heap.size w10 wx)
  case first =>
    obtain ⟨x0, x1, x2, x3⟩ := id tx10
    obtain ⟨y0, y1, y2, y3⟩ := id ty10
    obtain ⟨p0, p1, p2, p3, p4, p5, p6, p7, p8⟩ := id ly10
    go_region_held3 (fun w' => w'.cell? ⟨nx, 0, none⟩ = some (.string ⟨#[88]⟩) ∧ w'.cell? ⟨nx, 1, none⟩ = some (.int .i64 0) ∧ w'.cell? ⟨nx, 2, none⟩ = some (.int .i64 0) ∧ w'.cell? ⟨nx, 3, none⟩ = some (.string ⟨#[]⟩) ∧
      w'.cell? ⟨ny, 0, none⟩ = some (.string ⟨#[89]⟩) ∧ w'.cell? ⟨ny, 1, none⟩ = some (.int .i64 0) ∧ w'.cell? ⟨ny, 2, none⟩ = some (.int .i64 0) ∧ w'.cell? ⟨ny, 3, none⟩ = some (.string ⟨#[]⟩) ∧
      w'.cell? ⟨n3, 0, none⟩ = some (.int .i64 1) ∧ w'.cell? ⟨n3, 1, none⟩ = some (.string ⟨#[112]⟩) ∧ w'.cell? ⟨n3, 2, none⟩ = some (.int .i64 0) ∧ w'.cell? ⟨n3, 3, none⟩ = some (.slice (some ⟨na, 0, none⟩) 1 1) ∧ w'.cell? ⟨n3, 4, none⟩ = some (.string ⟨#[]⟩) ∧
      w'.cell? ⟨n3, 5, none⟩ = some (.string ⟨#[]⟩) ∧ w'.cell? ⟨n3, 6, none⟩ = some (.int .i64 0) ∧ w'.cell? ⟨n3, 7, none⟩ = some (.int .i64 0) ∧ w'.cell? ⟨n3, 8, none⟩ = some (.int .i64 0))
      (first | exact ⟨x0, x1, x2, x3, y0, y1, y2, y3, p0, p1, p2, p3, p4, p5, p6, p7, p8⟩ | exact SK (by assumption) (by first | exact below_new _ _ | assumption))
      (first
        | (go_at_call 34; refine order3 (by with_reducible (repeat (first | (refine ints3' _ _ _ _ _ ?_; simp <;> contradiction) | refine ints_alloc ?_ | refine ints_drew ?_ | refine ints_step (by assumption) ?_))) (by with_reducible (repeat (first | (refine lits3_x (by assumption) ha10 (by assumption) (by with_reducible (repeat (first | exact Below.refl _ _ | refine below_alloc' ?_ | refine below_drew' ?_ | refine below_step (by assumption) ?_))) (by with_reducible (repeat (first | exact Below.refl _ _ | refine below_alloc' ?_ | refine below_drew' ?_ | refine below_step (by assumption) ?_))) (by with_reducible (repeat (first | exact Below.refl _ _ | refine below_alloc' ?_ | refine below_drew' ?_ | refine below_step (by assumption) ?_))) _ ?_; simp <;> contradiction) | refine lits_alloc ?_ | refine lits_drew ?_))) ?_; intro wO bO)
        | (go_at_call 33; refine lit_ts (by with_reducible (repeat (first | (refine terms2 _ _ _ _ ?_; simp <;> contradiction) | (refine termsN _ _ ?_; simp <;> contradiction) | apply terms_alloc | apply terms_drew | (apply terms_step; assumption)))) ?_; intro wA hA bA))
    all_goals
      go_wp2_with fail
      go_meet
      case rel => exact ⟨rfl, (by with_reducible (repeat (first | exact Below.refl _ _ | refine below_alloc' ?_ | refine below_drew' ?_ | refine below_step (by assumption) ?_)))⟩
  case rest =>
    obtain ⟨rfl, bcut⟩ := hcut
    obtain ⟨w11, rfl⟩ : ∃ x : World, x = wc := ⟨_, rfl⟩
    have tx11 := tx10.keep bcut
    have ty11 := ty10.keep bcut
    have ly11 := ly10.keep bcut
    have ln11 := ln10.keep bcut
    have ha11 := ha10.keep (keeps_below bcut)
    have hb11 := hb10.keep (keeps_below bcut)
    have bb11 := below_trans bb10 bcut
    clear bcut tx10 ty10 ly10 ln10 ha10 hb10 bb10
    go_upto_region 7 with fail
    go_cut [7] from 47 to 57 (fun v7 wx => v7 = .bool true ∧ Below w11.heap.size w11 wx)
    case first =>
      obtain ⟨x0, x1, x2, x3⟩ := id tx11
      obtain ⟨y0, y1, y2, y3⟩ := id ty11
      go_region_held3 (fun w' => w'.cell? ⟨nx, 0, none⟩ = some (.string ⟨#[88]⟩) ∧ w'.cell? ⟨nx, 1, none⟩ = some (.int .i64 0) ∧ w'.cell? ⟨nx, 2, none⟩ = some (.int .i64 0) ∧ w'.cell? ⟨nx, 3, none⟩ = some (.string ⟨#[]⟩) ∧
        w'.cell? ⟨ny, 0, none⟩ = some (.string ⟨#[89]⟩) ∧ w'.cell? ⟨ny, 1, none⟩ = some (.int .i64 0) ∧ w'.cell? ⟨ny, 2, none⟩ = some (.int .i64 0) ∧ w'.cell? ⟨ny, 3, none⟩ = some (.string ⟨#[]⟩))
        (first | exact ⟨x0, x1, x2, x3, y0, y1, y2, y3⟩ | exact SK2 (by assumption) (by first | exact below_new _ _ | assumption))
        (first
          | (go_at_call 35; refine number3 ?_; intro wN bN)
          | (go_at_call 34; refine order4 (by with_reducible (repeat (first | (refine ints2' _ _ _ _ ?_; simp <;> contradiction) | refine ints_alloc ?_ | refine ints_drew ?_ | refine ints_step (by assumption) ?_))) (by with_reducible (repeat (first | (refine lits2_x (by assumption) (by assumption) (by with_reducible (repeat (first | exact Below.refl _ _ | refine below_alloc' ?_ | refine below_drew' ?_ | refine below_step (by assumption) ?_))) (by with_reducible (repeat (first | exact Below.refl _ _ | refine below_alloc' ?_ | refine below_drew' ?_ | refine below_step (by assumption) ?_))) _ ?_; simp <;> contradiction) | refine lits_alloc ?_ | refine lits_drew ?_))) ?_; intro wO bO)
          | (go_at_call 33; refine lit_ts (by with_reducible (repeat (first | (refine terms2 _ _ _ _ ?_; simp <;> contradiction) | (refine termsN _ _ ?_; simp <;> contradiction) | apply terms_alloc | apply terms_drew | (apply terms_step; assumption)))) ?_; intro wA hA bA))
      all_goals
        go_wp2_with fail
        go_meet
        case rel => exact ⟨rfl, (by with_reducible (repeat (first | exact Below.refl _ _ | refine below_alloc' ?_ | refine below_drew' ?_ | refine below_step (by assumption) ?_)))⟩
    case rest =>
      obtain ⟨rfl, bcut⟩ := hcut
      obtain ⟨w12, rfl⟩ : ∃ x : World, x = wc := ⟨_, rfl⟩
      have tx12 := tx11.keep bcut
      have ty12 := ty11.keep bcut
      have ly12 := ly11.keep bcut
      have ln12 := ln11.keep bcut
      have ha12 := ha11.keep (keeps_below bcut)
      have hb12 := hb11.keep (keeps_below bcut)
      have bb12 := below_trans bb11 bcut
      clear bcut tx11 ty11 ly11 ln11 ha11 hb11 bb11
      obtain ⟨x0, x1, x2, x3⟩ := id tx12
      go_wp2_with fail
      refine (lit_any 5 1 _ [tX, tX] _ (terms_new w12 [tX, tX] (by decide))).mono ?_
      rintro e w13 ⟨he, hx13, b13⟩
      change e = .returned (.agg #[.int .i64 5, .string ⟨#[112]⟩, .int .i64 0, .slice (some ⟨w12.heap.size, 0, none⟩) 2 2, .string ⟨#[]⟩, .string ⟨#[]⟩, .int .i64 0, .int .i64 1, .int .i64 0]) at he
      subst he
      have L13 := lits_new' w13 w13.heap.size [mkLit 5 1 (.slice (some ⟨w12.heap.size, 0, none⟩) 2 2) [tX, tX]] rfl (by simp) (ok1 hx13)
      have hO := Order_any (mkRule (.slice (some ⟨w13.heap.size, 0, none⟩) 1 1) [mkLit 5 1 (.slice (some ⟨w12.heap.size, 0, none⟩) 2 2) [tX, tX]]) (.slice none 0 0) [] _ ⟨nil_terms _, L13⟩ (nil_names _) ⟨by simp [mkRule], by simp [mkRule, mkLit]⟩ (by simp)
      rw [ord5] at hO
      clear x0 x1 x2 x3
      go_wp2_with fail
      refine hO.mono ?_
      rintro e w14 ⟨⟨ve, rfl, -⟩, b14⟩
      have b24 := below_trans (below_trans (below_new w12 (.cells ([tX, tX].flatMap encT).toArray 69)) b13) (below_trans (below_new w13 (.cells ([mkLit 5 1 (.slice (some ⟨w12.heap.size, 0, none⟩) 2 2) [tX, tX]].flatMap encL).toArray 58)) b14)
      have tx14 := tx12.keep b24
      have ty14 := ty12.keep b24
      have ly14 := ly12.keep b24
      have ln14 := ln12.keep b24
      have ha14 := ha12.keep (keeps_below b24)
      have hb14 := hb12.keep (keeps_below b24)
      have bb14 := below_trans bb12 b24
      clear b24 b14 b13 L13 hO hx13 tx12 ty12 ly12 ln12 ha12 hb12 bb12
      obtain ⟨x0, x1, x2, x3⟩ := id tx14
      obtain ⟨y0, y1, y2, y3⟩ := id ty14
      have L14 := lits_new' (w14.alloc (.cells ([tY, tX, tY].flatMap encT).toArray 69)) (w14.heap.size + 1) [litYXY (.slice (some ⟨w14.heap.size, 0, none⟩) 3 3)] (by simp) (by simp) (ok1 (litOk_yxy (terms_new w14 [tY, tX, tY] (by decide))))
      have hV := Vars_any (mkRule (.slice (some ⟨w14.heap.size + 1, 0, none⟩) 1 1) [litYXY (.slice (some ⟨w14.heap.size, 0, none⟩) 3 3)]) _ ⟨nil_terms _, L14⟩ ⟨by simp [mkRule], by simp [mkRule, litYXY]⟩
      go_wp2_with fail
      refine hV.mono ?_
      rintro e w15 ⟨⟨va, vb, rfl, hva, hvb⟩, b15⟩
      have hva : IsNames w15 va [nm 89, nm 88] := by rw [← (ord6 (.slice (some ⟨w14.heap.size, 0, none⟩) 3 3)).1]; exact hva
      have hvb : IsNames w15 vb [nm 76] := by rw [← (ord6 (.slice (some ⟨w14.heap.size, 0, none⟩) 3 3)).2]; exact hvb
      have b25 := below_trans (below_trans (below_new w14 (.cells ([tY, tX, tY].flatMap encT).toArray 69)) (below_new (w14.alloc (.cells ([tY, tX, tY].flatMap encT).toArray 69)) (.cells ([litYXY (.slice (some ⟨w14.heap.size, 0, none⟩) 3 3)].flatMap encL).toArray 58))) b15
      have ty15 := ty14.keep b25
      have ly15 := ly14.keep b25
      have ln15 := ln14.keep b25
      have ha15 := ha14.keep (keeps_below b25)
      have hb15 := hb14.keep (keeps_below b25)
      have bb15 := below_trans bb14 b25
      clear b25 b15 L14 hV tx14 ty14 ly14 ln14 ha14 hb14 bb14 x0 x1 x2 x3 y0 y1 y2 y3
      obtain ⟨y0, y1, y2, y3⟩ := id ty15
      obtain ⟨p0, p1, p2, p3, p4, p5, p6, p7, p8⟩ := id ly15
      have hl3 := lit_lt ly15
      have hly := term_lt ty15
      obtain ⟨hC, bC⟩ := check_bad w15 na ha15
      go_wp2_with fail
      refine hC.mono ?_
      rintro e w16 ⟨⟨vd, rfl, hvd⟩, b16⟩
      have b26 := below_trans bC b16
      have ly16 := ly15.keep b26
      have ln16 := ln15.keep b26
      have ha16 := ha15.keep (keeps_below b26)
      have hb16 := hb15.keep (keeps_below b26)
      have bb16 := below_trans bb15 b26
      have hva16 := hva.keep (keeps_below (below_trans b26 (below_new w16 (.cells ([nm 89, nm 88].flatMap encS).toArray 9))))
      clear ty15 ly15 ln15 ha15 hb15 bb15 y0 y1 y2 y3 p0 p1 p2 p3 p4 p5 p6 p7 p8 hl3 hly hC bC b16
      go_wp2_with fail
      refine (names_yes hva16 (names_new w16 [nm 89, nm 88] (by decide))).mono ?_
      rintro e w17 ⟨rfl, b17⟩
      have b27 := below_trans (below_new w16 (.cells ([nm 89, nm 88].flatMap encS).toArray 9)) b17
      have hvb17 := hvb.keep (keeps_below (below_trans (below_trans b26 b27) (below_new w17 (.cells ([nm 76].flatMap encS).toArray 9))))
      go_wp2_with fail
      refine (names_yes hvb17 (names_new w17 [nm 76] (by decide))).mono ?_
      rintro e w18 ⟨rfl, b18⟩
      have b28 := below_trans b27 (below_trans (below_new w17 (.cells ([nm 76].flatMap encS).toArray 9)) b18)
      have hvd18 := hvd.keep (keeps_below (below_trans b28 (below_new w18 (.cells ([((80 : Int), (7 : Int))].flatMap encD).toArray 76))))
      go_wp2_with fail
      refine (diags_yes hvd18 (diags_new w18 [((80 : Int), (7 : Int))] (by decide))).mono ?_
      rintro e w19 ⟨rfl, b19⟩
      have b29 := below_trans b28 (below_trans (below_new w18 (.cells ([((80 : Int), (7 : Int))].flatMap encD).toArray 76)) b19)
      obtain ⟨p0, p1, p2, p3, p4, p5, p6, p7, p8⟩ := ly16.keep b29
      obtain ⟨q0, q1, q2, q3, q4, q5, q6, q7, q8⟩ := ln16.keep b29
      have ha19 := ha16.keep (keeps_below b29)
      have hb19 := hb16.keep (keeps_below b29)
      go_wp2_with fail
      refine (last_eval w19 na nb ha19 hb19).mono ?_
      rintro e w20 ⟨rfl, b20⟩
      go_wp2
      go_ret
      exact ⟨rfl, below_trans bb16 (below_trans b29 b20)⟩
end Go.Proofs.Ytnibgmmoebmnlaa
