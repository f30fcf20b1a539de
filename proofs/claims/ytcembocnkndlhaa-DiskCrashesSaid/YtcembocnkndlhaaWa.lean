/- The walks of the leaves: full, the shapes that formed asks for, failure. -/
import Derived.Test.YtcembocnkndlhaaMem
namespace Go.Proofs.Ytcembocnkndlhaa
open Go.RowKit
theorem info5 : (Try.prog.info? 5).map (fun i => (i.zero, i.size, i.bytes)) = some (some (.int .u8 0), 1, 1) := by kernel_rfl
def zero64 : List Value := bytesV (zeros 64)
theorem length_zero64 : zero64.length = 64 := by simp [zero64, length_bytesV, zeros]
theorem made64 : (madeCells #[Value.int .u8 0] 64) = zero64.toArray := by
  apply Array.ext
  · simp [madeCells, length_zero64]
  · intro i h1 h2
    have e : ∀ (n i : Nat) (h : i < ((bytesV (zeros n)).toArray).size), (bytesV (zeros n)).toArray[i] = .int .u8 0 := fun n i h => by simp [bytesV, zeros]
    rw [show zero64.toArray[i] = .int .u8 0 from e 64 i h2]
    simp [madeCells, Nat.mod_one]
theorem run_make64 (w : World) : (Instr.makeSlice 26 (.int .i64 64) (.int .i64 64)).run Try.prog w = .ok (.slice (some ⟨w.heap.size, 0, none⟩) 64 64) (w.alloc (.cells zero64.toArray 5)) := by
  have h := run_make_row' (P := Try.prog) 26 5 (.int .u8 0) 1 Try.underlying26 info5 rfl .i64 .i64 64 (by decide) (by decide) w
  rw [made64] at h
  exact h
theorem splice_full {l : List UInt8} : splice zero64 0 (bytesV (l.take 64)) = bytesV (full l) := by
  unfold splice zero64 full bytesV
  simp only [List.take_zero, List.nil_append, List.map_append, List.length_map, Nat.zero_add, ← List.map_drop]
  congr 2
  unfold zeros
  rw [List.drop_replicate, List.length_take]
  congr 1
  omega
theorem bytes_take {w : World} {b off : Nat} {l : List UInt8} (hc : ∀ i x, l[i]? = some x → ∀ j u, (encB x)[j]? = some u → w.cell? ⟨b, off + i * 1 + j, none⟩ = some u) (n : Nat) :
    ∀ j u, (bytesV (l.take n))[j]? = some u → w.cell? ((⟨b, off, none⟩ : Addr).add j) = some u := by
  intro j u hj
  unfold bytesV at hj
  rw [List.getElem?_map] at hj
  obtain ⟨x, hx, rfl⟩ := Option.map_eq_some_iff.1 hj
  rw [List.getElem?_take] at hx
  split at hx
  · have := hc j x hx 0 _ rfl
    have hadd : (⟨b, off, none⟩ : Addr).add j = ⟨b, off + j, none⟩ := by
      unfold Addr.add; split
      · rename_i h0; subst h0; simp
      · simp
    rw [hadd]; simpa using this
  · cases hx
theorem full_any (v : Value) (l : List UInt8) (w : World) (h : IsBytes w v l) :
    Calls Try.prog 58 #[v] w fun e w' => ∃ u, e = .returned u ∧ OwnPage w' w.heap.size u (full l) ∧ Below w.heap.size w w' := by
  obtain ⟨a, c, rfl, hr, hm⟩ := h
  have hmk := run_make64
  have b0 := below_new w (.cells zero64.toArray 5)
  have hpos : 0 < (bytesV (l.take 64)).length → (some (⟨w.heap.size, 0, none⟩ : Addr)) = some ⟨w.heap.size, 0, none⟩ ∧ ∃ ad, a = some ad ∧ ∀ j v, (bytesV (l.take 64))[j]? = some v → (w.alloc (.cells zero64.toArray 5)).cell? (ad.add j) = some v := by
    intro hp
    rw [length_bytesV] at hp
    rcases hr with rfl | ⟨b, off, rfl, hc⟩
    · simp at hp
    · exact ⟨rfl, _, rfl, bytes_take (fun i x hi j u hj => keeps_below b0 _ _ (hc i x hi j u hj)) 64⟩
  have hn : (bytesV (l.take 64)).length = Nat.min l.length 64 := by rw [length_bytesV, List.length_take]; exact Nat.min_comm _ _
  have h1 := bytesV_one (l.take 64)
  have hfit : 0 + (bytesV (l.take 64)).length ≤ zero64.length := by rw [hn, length_zero64]; have := Nat.min_le_right l.length 64; simp only [Nat.zero_add]; exact this
  have hS := Lib.hid (splice_full (l := l))
  have hL := length_full l
  have HL := Lib.hid hL
  have hg : (w.alloc (.cells zero64.toArray 5)).heap[w.heap.size]? = some (.cells zero64.toArray 5 (0, 0)) := heap_alloc_new w _
  have hsz : (Try.prog.info? 5).map (·.size) = some 1 := by kernel_rfl
  generalize full l = fl at *
  generalize hcs : bytesV (l.take 64) = cs at *
  have HC := Lib.hid hcs
  have HN := Lib.hid hn
  have HP := Lib.hid hpos
  have HG := Lib.hid hg
  clear hcs hL hn hpos hg hr
  go_enter Try.func58, Try.ntmps58
  go_wp2_with (with_reducible refine wpList_copy_splice rfl (.tmp 5) (.tmp 6) 26 26 rfl 5 Try.underlying26 hsz (some ⟨w.heap.size, 0, none⟩) a 64 64 l.length c rfl rfl w.heap.size 0 zero64 5 HG.out cs HN.out HP.out hfit h1 w.heap.size w b0 (Nat.le_refl _) ?_; intro w2 HG2 hB2)
  go_ret
  have hg2 := HG2.out
  rw [hS.out] at hg2
  exact ⟨_, rfl, ⟨w.heap.size, rfl, Nat.le_refl _, hg2, HL.out⟩, hB2⟩
end Go.Proofs.Ytcembocnkndlhaa
