/- The plain law of LatticeFunctions. -/
import Derived.Test.YtkjlflmcojmfgaaDoorWp
namespace Go.Proofs.YtkjlflmcojmfgaaDoor
open Go.RowKit
theorem getD_of {l : List Nat} {a : Nat} (h : a < l.length) : l.getD a 0 = l[a] := by rw [List.getD_eq_getElem?_getD, List.getElem?_eq_getElem h]; rfl
theorem castI_getD (l : List Nat) (a : Nat) : ((castI l).getD a 0).toNat = l.getD a 0 := by
  unfold castI
  rw [List.getD_eq_getElem?_getD, List.getD_eq_getElem?_getD, List.getElem?_map]
  cases l[a]? <;> simp
theorem castI_inj {l m : List Nat} : castI l = castI m ↔ l = m := by
  constructor
  · intro h
    have := congrArg (List.map Int.toNat) h
    rwa [show (castI l).map Int.toNat = l from toNat_map l, show (castI m).map Int.toNat = m from toNat_map m] at this
  · rintro rfl; rfl
theorem tabTo_lt {n : Nat} {y : List UInt8} {k : Nat} (hn : 0 < n) : ∀ x ∈ tabTo n y k, x < n := fun x hx => by
  obtain ⟨a, -, rfl⟩ := List.mem_map.1 hx; exact Nat.mod_lt _ hn
section
variable {n : Nat} {o : Rl2} (h : Lat n o) {t : List Nat} (ht : ∀ x ∈ t, x < n) (hl : t.length = n)
include h ht hl
theorem Lat.upk_is (a : Nat) : ∃ j, lub n o (upk o t a n) = (j : Nat) ∧ IsLub n o (upk o t a n) j := h.lub_is fun x hx => by
  unfold upk at hx
  obtain ⟨c, hc, rfl⟩ := List.mem_map.1 hx
  have hcn := List.mem_range.1 (List.mem_filter.1 hc).1
  rw [getD_of (by omega)]
  exact ht _ (List.getElem_mem _)
theorem Lat.cloTo_at {a : Nat} (ha : a < n) : IsLub n o (upk o t a n) ((cloTo n o t n).getD a 0) := by
  obtain ⟨j, hj, hjl⟩ := h.upk_is ht hl a
  have e : (cloTo n o t n).getD a 0 = j := by
    unfold cloTo
    rw [List.getD_eq_getElem?_getD, List.getElem?_map, List.getElem?_range ha]
    simp [hj]
  rw [e]; exact hjl
theorem Lat.cloTo_closed : IsClosed n o (fun a => t.getD a 0) (fun a => (cloTo n o t n).getD a 0) := fun _ ha => h.cloTo_at ht hl ha
theorem Lat.cloTo_lt : ∀ x ∈ cloTo n o t n, x < n := fun x hx => by
  unfold cloTo at hx
  obtain ⟨a, ha, rfl⟩ := List.mem_map.1 hx
  obtain ⟨j, hj, hjl⟩ := h.upk_is ht hl a
  rw [hj]; simpa using hjl.1
end
theorem monoT_iff {n : Nat} {o : Rl2} (hlt : ∀ {a b}, o a b = true → a < n ∧ b < n) {l : List Nat} : monoT n o (castI l) = true ↔ Mono o fun a => l.getD a 0 := by
  unfold monoT
  rw [List.all_eq_true]
  constructor
  · intro hm a b hab
    obtain ⟨ha, hb⟩ := hlt hab
    have := List.all_eq_true.1 (hm a (List.mem_range.2 ha)) b (List.mem_range.2 hb)
    rw [castI_getD, castI_getD, hab] at this
    simpa using this
  · intro hm a ha
    refine List.all_eq_true.2 fun b hb => ?_
    rw [castI_getD, castI_getD]
    cases hab : o a b
    · rfl
    · rw [hm a b hab]; rfl
end Go.Proofs.YtkjlflmcojmfgaaDoor
