/- Equality of values and of strings, as the program tests it. -/
import Derived.Test.YtdibijhaiaiifaaDoorAt
namespace Go.Proofs.YtdibijhaiaiifaaDoor
open Go.RowKit
theorem beq_dec (a b : List UInt8) : (a == b) = decide (a = b) := by rw [Bool.eq_iff_iff]; simp
theorem run_eq_str (a b : List UInt8) (w : World) : (binOp .eql 9 (strV a) (strV b)).run Tryd.prog w = .ok (.bool (decide (a = b))) w := by
  simp [go_sem, strV, beq_dec]
theorem run_neq_str (a b : List UInt8) (w : World) : (binOp .neq 9 (strV a) (strV b)).run Tryd.prog w = .ok (.bool (!decide (a = b))) w := by
  simp [go_sem, strV, beq_dec]
theorem run_neq_vl (x y : Vl) (w : World) : (binOp .neq 58 (valV x) (valV y)).run Tryd.prog w = .ok (.bool (!decide (x = y))) w := by
  have hp : Tryd.prog.stoodInHeld 58 = false := by kernel_rfl
  have hf : Tryd.prog.underlying 58 = some (.struct (Tryd.prog.fieldsOf 58)) := by kernel_rfl
  unfold valV
  rw [run_neq_struct, run_equalIn_agg w 9999 58 _ _ hf hp]
  simp [go_sem, strV, beq_dec]
  by_cases h1 : x.t = y.t
  · by_cases h2 : x.n = y.n
    · by_cases h3 : x.s = y.s
      · simp [Vl.ext' h1 h2 h3]
      · have : x ≠ y := fun e => h3 (by rw [e])
        simp [h1, h2, h3, this]
    · have : x ≠ y := fun e => h2 (by rw [e])
      simp [h1, h2, this]
  · have : x ≠ y := fun e => h1 (by rw [e])
    simp [h1, this]
theorem run_eq_vl (x y : Vl) (w : World) : (binOp .eql 58 (valV x) (valV y)).run Tryd.prog w = .ok (.bool (decide (x = y))) w := by
  have hp : Tryd.prog.stoodInHeld 58 = false := by kernel_rfl
  have hf : Tryd.prog.underlying 58 = some (.struct (Tryd.prog.fieldsOf 58)) := by kernel_rfl
  unfold valV
  rw [run_eql_struct, run_equalIn_agg w 9999 58 _ _ hf hp]
  simp [go_sem, strV, beq_dec]
  by_cases h1 : x.t = y.t
  · by_cases h2 : x.n = y.n
    · by_cases h3 : x.s = y.s
      · simp [Vl.ext' h1 h2 h3]
      · have : x ≠ y := fun e => h3 (by rw [e])
        simp [h1, h2, h3, this]
    · have : x ≠ y := fun e => h2 (by rw [e])
      simp [h1, h2, this]
  · have : x ≠ y := fun e => h1 (by rw [e])
    simp [h1, this]
theorem run_guard_vl (op : BinOp) (x y : Operand) (u v : Array Value) (w : World) : (eqGuard op 58 x y (.agg u) (.agg v)).run Tryd.prog w = .ok () w := run_eqGuard_agg w op 58 x y u v (by kernel_rfl)
end Go.Proofs.YtdibijhaiaiifaaDoor
