/- The walks of numbers and occurs. -/
import Derived.Test.YtnibgmmoebmnlaaWs
namespace Go.Proofs.Ytnibgmmoebmnlaa
open Go.RowKit
theorem not_before {out : List Nat} (h : out.Nodup) {k : Nat} (hk : k < out.length) : out[k] ∉ out.take k := by
  intro hm
  obtain ⟨i, hi, e⟩ := List.mem_iff_getElem.1 hm
  rw [List.length_take] at hi
  rw [List.getElem_take] at e
  exact List.pairwise_iff_getElem.1 h i k (by omega) hk (by omega) e
theorem mem_take_succ {out : List Nat} {k : Nat} (hk : k < out.length) (i : Nat) : decide (i ∈ out.take (k + 1)) = (if i = out[k] then true else decide (i ∈ out.take k)) := by
  rw [List.take_succ_eq_append_getElem hk]
  by_cases e : i = out[k]
  · rw [if_pos e]
    exact decide_eq_true (List.mem_append.2 (.inr (List.mem_singleton.2 e)))
  · rw [if_neg e, decide_eq_decide, List.mem_append, List.mem_singleton]
    exact ⟨fun h => h.resolve_right e, .inl⟩
set_option maxHeartbeats 2000000 in
set_option maxRecDepth 100000 in
/-- numbers says yes to a list that names each number once. -/
theorem numbers_yes (v : Value) (out : List Nat) (w : World) (h : IsInts w v (zs out)) (hnd : out.Nodup) (hlt : ∀ i ∈ out, i < out.length) (hn : out.length ≤ 1000) :
    Calls Try.prog 31 #[v, .int .i64 out.length] w fun e w' => e = .returned (.bool true) ∧ Below w.heap.size w w' := by
  obtain ⟨i0, hi, hz0, hz1, hz2⟩ := info_parts info4'
  obtain ⟨pa, pc, rfl, h, hm⟩ := h
  rw [zs_length]
  go_enter Try.func31, Try.ntmps31
  go_wp2_with (at_make; refine wpList_make_full _ rfl _ _ 54 rfl w.heap.size 4 i0 (.bool false) 1 Try.underlying54 hi hz0 hz1 .i64 .i64 (out.length : Int) (out.length : Int) out.length rfl rfl rfl rfl (by rw [hz2]; omega) (by unfold maxLen; omega) (Nat.le_refl _) ?_; intro w2 hmade hgm)
  have hdone := Bools.made hmade
  have b2 : Below w.heap.size w w2 := (Below.refl _ _).grown hgm (Nat.le_refl _) (by simp)
  clear hmade hgm
  go_wp2
  go_loopw [6] (fun iv wr => ∃ k : Nat, k ≤ out.length ∧ iv = .int .i64 k ∧ Bools wr w.heap.size out.length (fun i => decide (i ∈ out.take k)) ∧ Below w.heap.size w wr) (fun iv _ => out.length - (intOf iv).toNat)
  case atStart => exact ⟨0, by simp, rfl, hdone.congr (fun i _ => by simp), b2⟩
  case round =>
    obtain ⟨k, hk, rfl, hd, hb⟩ := hrel
    by_cases hlt' : k < out.length
    · have hzk : (zs out)[k]? = some ((out[k] : Nat) : Int) := by simp [zs, hlt']
      obtain ⟨bo, oo, rfl, c0⟩ := (h.keep (keeps_below hb)).one hzk rfl
      have hj := hlt out[k] (List.getElem_mem hlt')
      have cd := hd.cell hj
      have fd := hd.frozen out[k]
      rw [decide_eq_false (not_before hnd hlt')] at cd
      have hd' := (hd.set out[k] true).congr (g := fun i => decide (i ∈ out.take (k + 1))) (fun i _ => (mem_take_succ hlt' i).symm)
      generalize out[k] = j at *
      have hj1 : (j : Int) < out.length := by omega
      have hj2 : ¬ (out.length : Int) ≤ j := by omega
      go_wp2
      go_roundw
      case rel => exact ⟨k + 1, by omega, by go_num, hd', hb.grown (grown_setCell wr ⟨w.heap.size, j, none⟩ _) hb.size (by simp)⟩
      case measure => simp [intOf]; omega
    · have he : k = out.length := by omega
      subst he
      go_wp2
      go_ret
      exact ⟨rfl, hb⟩
end Go.Proofs.Ytnibgmmoebmnlaa
