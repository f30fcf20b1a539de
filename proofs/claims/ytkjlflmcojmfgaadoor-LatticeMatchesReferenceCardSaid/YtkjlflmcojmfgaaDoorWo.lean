/- What the laws need of Leq, Join, Bottom at a lattice that has been checked. -/
import Derived.Test.YtkjlflmcojmfgaaDoorWn
namespace Go.Proofs.YtkjlflmcojmfgaaDoor
open Go.RowKit
theorem lat_ok {L : Ltc} (h : checkL L = 0) : Lat L.elems.length (ordL L) := lat_clo (args_parts (check_zero h).1).2.2.2 (check_zero h).2.2
theorem inAll_of {n : Nat} {l : List Nat} (h : ∀ a ∈ l, a < n) : inAll n (l.map fun (a : Nat) => (a : Int)) = true := by
  unfold inAll
  rw [List.all_eq_true]
  intro x hx
  obtain ⟨a, ha, rfl⟩ := List.mem_map.1 hx
  have := h a ha
  exact decide_eq_true (by omega)
theorem toNat_map (l : List Nat) : (l.map fun (a : Nat) => (a : Int)).map Int.toNat = l := by
  rw [List.map_map]
  exact (List.map_congr_left fun a _ => by simp).trans (List.map_id _)
theorem leqL_at {L : Ltc} (hck : checkL L = 0) {a b : Nat} (ha : a < L.elems.length) (hb : b < L.elems.length) : leqL L a b = ordL L a b := by
  unfold leqL
  rw [decide_eq_true hck, show inAll L.elems.length [(a : Int), (b : Int)] = true from inAll_of (l := [a, b]) (by simp [ha, hb])]
  simp
theorem lubL_at {L : Ltc} (hck : checkL L = 0) {l : List Nat} (h : ∀ a ∈ l, a < L.elems.length) : lubL L (l.map fun (a : Nat) => (a : Int)) = lub L.elems.length (ordL L) l := by
  unfold lubL
  rw [if_pos ⟨hck, inAll_of h⟩, toNat_map]
theorem leq_at {v : Value} {L : Ltc} {w : World} (hck : Hid (checkL L = 0)) (h : IsLtc w v L) (hK : KeysAt w 0) {a b : Nat} (ha : a < L.elems.length) (hb : b < L.elems.length) : Calls Tryd.prog 14 #[v, .int .i64 a, .int .i64 b] w fun e w' => e = .returned (.bool (ordL L a b)) ∧ Below w.heap.size w w' := by
  rw [← leqL_at hck.out ha hb]; exact Leq_any v L a b w h hK
theorem join_at {v : Value} {L : Ltc} {w : World} (h : IsLtc w v L) (hK : KeysAt w 0) (a b : Nat) (hck : Hid (checkL L = 0)) (ha : a < L.elems.length) (hb : b < L.elems.length) : Calls Tryd.prog 16 #[v, .int .i64 a, .int .i64 b] w fun e w' => e = .returned (.int .i64 (lub L.elems.length (ordL L) [a, b])) ∧ Below w.heap.size w w' := by
  rw [← lubL_at hck.out (l := [a, b]) (by simp [ha, hb])]; exact Join_any v L a b w h hK
theorem bot_at {v : Value} {L : Ltc} {w : World} (h : IsLtc w v L) (hK : KeysAt w 0) (hck : Hid (checkL L = 0)) : Calls Tryd.prog 20 #[v] w fun e w' => e = .returned (.int .i64 (lub L.elems.length (ordL L) [])) ∧ Below w.heap.size w w' := by
  rw [← lubL_at hck.out (l := []) (by simp)]; exact Bottom_any v L w h hK
theorem lub_at {v : Value} {L : Ltc} {w : World} {lv : Value} {l : List Nat} (h : IsLtc w v L) (hl : IsInts w lv (l.map fun (a : Nat) => (a : Int))) (hK : KeysAt w 0) (hck : Hid (checkL L = 0)) (hr : ∀ a ∈ l, a < L.elems.length) : Calls Tryd.prog 18 #[v, lv] w fun e w' => e = .returned (.int .i64 (lub L.elems.length (ordL L) l)) ∧ Below w.heap.size w w' := by
  rw [← lubL_at hck.out hr]; exact Lub_any v L lv _ w h hl hK
theorem leq_ts {v : Value} {L : Ltc} {w : World} {c : Bool} {Q : Ending → World → Prop} (hck : Hid (checkL L = 0)) (h : IsLtc w v L ∧ KeysAt w 0) {a b : Nat} (ha : a < L.elems.length) (hb : b < L.elems.length) (hc : Hid (ordL L a b = c)) (k : ∀ w', Below w.heap.size w w' → Q (.returned (.bool c)) w') : Calls Tryd.prog 14 #[v, .int .i64 a, .int .i64 b] w Q :=
  (leq_at hck h.1 h.2 ha hb).mono fun e w' ⟨he, hb⟩ => by subst he; rw [hc.out]; exact k w' hb
theorem join_ts {v : Value} {L : Ltc} {w : World} {j : Nat} {Q : Ending → World → Prop} (hck : Hid (checkL L = 0)) (h : IsLtc w v L ∧ KeysAt w 0) {a b : Nat} (ha : a < L.elems.length) (hb : b < L.elems.length) (hj : Hid (lub L.elems.length (ordL L) [a, b] = (j : Int))) (k : ∀ w', Below w.heap.size w w' → Q (.returned (.int .i64 j)) w') : Calls Tryd.prog 16 #[v, .int .i64 a, .int .i64 b] w Q :=
  (join_at h.1 h.2 a b hck ha hb).mono fun e w' ⟨he, hb⟩ => by subst he; rw [hj.out]; exact k w' hb
theorem bot_ts {v : Value} {L : Ltc} {w : World} {z : Nat} {Q : Ending → World → Prop} (hck : Hid (checkL L = 0)) (h : IsLtc w v L ∧ KeysAt w 0) (hz : Hid (lub L.elems.length (ordL L) [] = (z : Int))) (k : ∀ w', Below w.heap.size w w' → Q (.returned (.int .i64 z)) w') : Calls Tryd.prog 20 #[v] w Q :=
  (bot_at h.1 h.2 hck).mono fun e w' ⟨he, hb⟩ => by subst he; rw [hz.out]; exact k w' hb
end Go.Proofs.YtkjlflmcojmfgaaDoor
