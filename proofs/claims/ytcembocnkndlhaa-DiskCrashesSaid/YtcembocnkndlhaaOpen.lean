/- How the rows' arguments read: numbers, bytes, disks. -/
import Derived.Test.YtcembocnkndlhaaRows
import Derived.Test.YtcembocnkndlhaaMem
import Derived.ProofKit
import Derived.OpenShut
import Derived.ShutString
import Derived.ChangeOld
import Derived.Below
import Derived.ChangeSame
import Derived.Deep.Slices
import Derived.Deep.Fields
namespace Go.Proofs.Ytcembocnkndlhaa
open Go.ChangeShapes Go.WideShapes Go.ChangeAt Go.RowKit Go.Deep
theorem wf_41 {z : Int} (h : (Lit.int .u16 z).wf = true) : 0 ≤ z ∧ z < 65536 := by
  simp [Lit.wf, IntKind.min, IntKind.max, IntKind.signed, IntKind.bits] at h; omega
theorem wf_5 {z : Int} (h : (Lit.int .u8 z).wf = true) : 0 ≤ z ∧ z < 256 := by
  simp [Lit.wf, IntKind.min, IntKind.max, IntKind.signed, IntKind.bits] at h; omega
theorem wf_46 {z : Int} (h : (Lit.int .i8 z).wf = true) : -128 ≤ z ∧ z < 128 := by
  simp [Lit.wf, IntKind.min, IntKind.max, IntKind.signed, IntKind.bits] at h; omega
theorem own : ownKnob Try.prog.godebug = none := by kernel_rfl
theorem laidOut : laidOutB Try.prog = true := by kernel_rfl
section
variable {H : Type} {enc : TypeId × Value → H} {W : World}
/-- Whatever reads as type t: its cells. -/
abbrev Rd (enc : TypeId × Value → H) (W : World) (n : Nat) (t : TypeId) (cs : List Value) : Prop := ∃ y, DataW.trod enc Try.prog W 0 (fun _ => true) true n t cs = some y
theorem rd_int {n : Nat} {t : TypeId} {cs : List Value} (ht : Try.prog.underlying t = some (.int .i64)) (h : Rd enc W n t cs) : ∃ z, cs = [.int .i64 z] := by
  obtain ⟨y, h⟩ := h
  obtain ⟨z, e, _⟩ := DataW.trod_int ht h
  exact ⟨z, e⟩
theorem rd_u8 {n : Nat} {t : TypeId} {cs : List Value} (ht : Try.prog.underlying t = some (.int .u8)) (h : Rd enc W n t cs) : ∃ z : Int, cs = [.int .u8 z] ∧ 0 ≤ z ∧ z < 256 := by
  obtain ⟨y, h⟩ := h
  obtain ⟨z, e, _, hw⟩ := DataW.trod_int ht h
  simp [Lit.wf, IntKind.min, IntKind.max, IntKind.signed, IntKind.bits] at hw
  exact ⟨z, e, by omega, by omega⟩
theorem rd_bool {n : Nat} {t : TypeId} {cs : List Value} (ht : Try.prog.underlying t = some .bool) (h : Rd enc W n t cs) : ∃ b, cs = [.bool b] := by
  obtain ⟨y, h⟩ := h
  obtain ⟨z, e, _⟩ := DataW.trod_bool ht h
  exact ⟨z, e⟩
theorem rd_field {n : Nat} {t : TypeId} {cs : List Value} {fs : Array Field} (ht : Try.prog.underlying t = some (.struct fs)) (h : Rd enc W n t cs) :
    cs.length = Try.prog.cellsOf t ∧ ∃ m, ∀ (i : Nat) (f : Field), fs[i]? = some f → Rd enc W m f.type ((cs.drop f.offset).take (Try.prog.cellsOf f.type)) := by
  obtain ⟨y, h⟩ := h
  obtain ⟨xs, m, _, _, hl, hxl, hf⟩ := DataW.trod_struct ht h
  refine ⟨hl, m, fun i f hi => ?_⟩
  have := hf i f hi
  have hlt : i < xs.length := by rw [hxl]; exact (Array.getElem?_eq_some_iff.1 hi).1
  exact ⟨xs[i], by rw [this]; exact List.getElem?_eq_getElem hlt⟩
/-- A slice whose elements read. -/
theorem rd_slice {α : Type} {n : Nat} {t e k : Nat} {cs : List Value} (en : α → List Value) (ok : α → Prop) (ht : Try.prog.underlying t = some (.slice e)) (hk : Try.prog.cellsOf e = k) (hk0 : 0 < k)
    (hel : ∀ m cs, Rd enc W m e cs → ∃ x, cs = en x ∧ ok x) (h : Rd enc W n t cs) : ∃ v l, cs = [v] ∧ IsRows k en W v l ∧ ∀ x ∈ l, ok x := by
  obtain ⟨y, h⟩ := h
  rcases open_slice ht h with ⟨hcs, _⟩ | ⟨a, len, cap, m, n', D, Pl, hcs, _, hl, hm, hmm, _, hi⟩
  · exact ⟨_, [], hcs, ⟨none, 0, rfl, .inl rfl, by simp, by simp, by simp⟩, by simp⟩
  · simp only [if_true] at hmm
    subst hmm
    rw [hk] at hi
    have key : ∀ i, i < len → ∃ x, ok x ∧ ∀ j u, (en x)[j]? = some u → W.cell? ((a.add (i * k)).add j) = some u := by
      intro i hil
      obtain ⟨cs', hc, ht'⟩ := hi i (by omega)
      obtain ⟨_, hcl, hat⟩ := World.cells?_some hc
      obtain ⟨x, hx, hox⟩ := hel _ _ ⟨_, ht'⟩
      refine ⟨x, hox, fun j u hj => ?_⟩
      rw [← hx] at hj
      have hjl : j < k := by have := (List.getElem?_eq_some_iff.1 hj).1; omega
      rw [hat j hjl, hj]
    have hlen : ∀ i, i < len → ∃ x, ok x ∧ (en x).length = k := by
      intro i hil
      obtain ⟨cs', hc, ht'⟩ := hi i (by omega)
      obtain ⟨_, hcl, hat⟩ := World.cells?_some hc
      obtain ⟨x, hx, hox⟩ := hel _ _ ⟨_, ht'⟩
      exact ⟨x, hox, by rw [← hx]; exact hcl⟩
    have hlm : len ≤ 9223372036854775807 := by unfold maxLen at hm; omega
    rcases Nat.eq_zero_or_pos len with h0 | h0
    · subst h0
      exact ⟨_, [], hcs, ⟨some a, m, rfl, .inl rfl, by simp, by simp, by unfold maxLen at hm; omega⟩, by simp⟩
    · obtain ⟨x0, hox0, _⟩ := key 0 h0
      have key' : ∀ i, ∃ x, i < len → (ok x ∧ ∀ j u, (en x)[j]? = some u → W.cell? ((a.add (i * k)).add j) = some u) := by
        intro i
        by_cases h : i < len
        · obtain ⟨x, hx⟩ := key i h
          exact ⟨x, fun _ => hx⟩
        · exact ⟨x0, fun h' => absurd h' h⟩
      let f : Nat → α := fun i => Classical.choose (key' i)
      have hf : ∀ i, i < len → (ok (f i) ∧ ∀ j u, (en (f i))[j]? = some u → W.cell? ((a.add (i * k)).add j) = some u) := fun i => Classical.choose_spec (key' i)
      obtain ⟨b, off, spot⟩ := a
      have hsp : spot = none := by
        obtain ⟨cs', hc, ht'⟩ := hi 0 (by omega)
        obtain ⟨_, hcl, hat⟩ := World.cells?_some hc
        have h1 := hat 0 hk0
        rw [List.getElem?_eq_getElem (by omega)] at h1
        simpa [Addr.add] using World.cell?_spot h1
      subst hsp
      refine ⟨_, (List.range len).map f, hcs, ⟨some ⟨b, off, none⟩, m, by simp, .inr ⟨b, off, rfl, fun i x hix j u hj => ?_⟩, by simpa using hlm, by simpa using hl, by unfold maxLen at hm; omega⟩, ?_⟩
      · rw [List.getElem?_map] at hix
        obtain ⟨i', hi', rfl⟩ := Option.map_eq_some_iff.1 hix
        have hlt : i < len := by have := (List.getElem?_eq_some_iff.1 hi').1; simpa using this
        rw [List.getElem?_range hlt] at hi'
        obtain rfl : i = i' := by simpa using hi'
        have := (hf i hlt).2 j u hj
        have e : ((⟨b, off, none⟩ : Addr).add (i * k)).add j = ⟨b, off + i * k + j, none⟩ := by
          rw [Go.Deep.add_add]
          unfold Addr.add
          split
          · rename_i h; simp at h; simp
          · simp [Nat.add_assoc]
        rwa [e] at this
      · intro x hx
        obtain ⟨i, hi', rfl⟩ := List.mem_map.1 hx
        exact (hf i (by simpa using hi')).1
theorem rd_bytes {n : Nat} {cs : List Value} (h : Rd enc W n 26 cs) : ∃ v l, cs = [v] ∧ IsBytes W v l := by
  obtain ⟨v, l, e, hr, _⟩ := rd_slice (α := UInt8) encB (fun _ => True) Try.underlying26 (show Try.prog.cellsOf 5 = 1 by kernel_rfl) (by decide) (fun m cs h => by
    obtain ⟨z, e, h0, h1⟩ := rd_u8 Try.underlying5 h
    refine ⟨UInt8.ofNat z.toNat, ?_, trivial⟩
    rw [e]
    unfold encB
    have : ((UInt8.ofNat z.toNat).toNat : Int) = z := by
      rw [UInt8.toNat_ofNat']
      omega
    rw [this]) h
  exact ⟨v, l, e, hr⟩
theorem all_choose {α β : Type} {P : α → β → Prop} : ∀ (l : List α), (∀ x ∈ l, ∃ y, P x y) → ∃ L : List β, l.length = L.length ∧ ∀ (i : Nat) (x : α) (y : β), l[i]? = some x → L[i]? = some y → P x y
  | [], _ => ⟨[], rfl, by simp⟩
  | x :: r, h => by
    obtain ⟨y, hy⟩ := h x (by simp)
    obtain ⟨L, hl, hL⟩ := all_choose r fun z hz => h z (by simp [hz])
    refine ⟨y :: L, by simp [hl], fun i u v hu hv => ?_⟩
    cases i with
    | zero => simp at hu hv; subst hu hv; exact hy
    | succ i => exact hL i u v (by simpa using hu) (by simpa using hv)
theorem rd_pages {n : Nat} {cs : List Value} (h : Rd enc W n 22 cs) : ∃ v L, cs = [v] ∧ IsPages W v L := by
  obtain ⟨v, vs, e, hr, ho⟩ := rd_slice (α := Value) encV (fun u => ∃ l, IsBytes W u l) Try.underlying22 (show Try.prog.cellsOf 26 = 1 by kernel_rfl) (by decide) (fun m cs h => by
    obtain ⟨u, l, e, hb⟩ := rd_bytes h
    exact ⟨u, e, l, hb⟩) h
  obtain ⟨L, hl, hL⟩ := all_choose vs ho
  exact ⟨v, L, e, vs, hr, hl, hL⟩
theorem c3 : Try.prog.cellsOf 3 = 1 := by kernel_rfl
theorem c4 : Try.prog.cellsOf 4 = 1 := by kernel_rfl
theorem c22 : Try.prog.cellsOf 22 = 1 := by kernel_rfl
theorem c23 : Try.prog.cellsOf 23 = 1 := by kernel_rfl
theorem c26 : Try.prog.cellsOf 26 = 1 := by kernel_rfl
theorem c49 : Try.prog.cellsOf 49 = 2 := by kernel_rfl
theorem c25 : Try.prog.cellsOf 25 = 3 := by kernel_rfl
theorem len2 {cs : List Value} (h : cs.length = 2) : ∃ a b, cs = [a, b] := by
  match cs, h with
  | [a, b], _ => exact ⟨a, b, rfl⟩
theorem len3 {cs : List Value} (h : cs.length = 3) : ∃ a b c, cs = [a, b, c] := by
  match cs, h with
  | [a, b, c], _ => exact ⟨a, b, c, rfl⟩
set_option maxRecDepth 100000 in
theorem rd_writes {n : Nat} {cs : List Value} (h : Rd enc W n 23 cs) : ∃ v L, cs = [v] ∧ IsWrites W v L := by
  obtain ⟨v, vs, e, hr, ho⟩ := rd_slice (α := Int × Value) encW (fun p => ∃ l, IsBytes W p.2 l) Try.underlying23 c49 (by decide) (fun m cs h => by
    obtain ⟨hl, m, hf⟩ := rd_field Try.underlying49 h
    have h0 : Rd enc W m 3 ((cs.drop 0).take (Try.prog.cellsOf 3)) := hf 0 _ rfl
    have h1 : Rd enc W m 26 ((cs.drop 1).take (Try.prog.cellsOf 26)) := hf 1 _ rfl
    rw [c49] at hl
    obtain ⟨a, b, rfl⟩ := len2 hl
    rw [c3] at h0
    rw [c26] at h1
    obtain ⟨x, e0⟩ := rd_int Try.underlying3 h0
    obtain ⟨u, l, e1, hb⟩ := rd_bytes h1
    simp at e0 e1
    exact ⟨(x, u), by rw [e0, e1]; rfl, l, hb⟩) h
  obtain ⟨L, hl, hL⟩ := all_choose (P := fun (p : Int × Value) (x : Wt) => p.1 = x.at_ ∧ IsBytes W p.2 x.data) vs fun p hp => by
    obtain ⟨l, hl⟩ := ho p hp
    exact ⟨⟨p.1, l⟩, rfl, hl⟩
  exact ⟨v, L, e, vs, hr, hl, hL⟩
/-! ### the arguments -/
section
variable {base : Nat} {v : Value} {d : DataW H} {p : List MemPlace}
set_option maxRecDepth 100000 in
theorem disk_of_read (hv : Value.okWide Try.prog W .any base 25 v) (h : DataW.Trod enc Try.prog W 0 (fun _ => true) true 25 v d p) : ∃ D, IsDisk W v D := by
  obtain ⟨cs, rfl, _⟩ := okWide_struct Try.underlying25 hv
  obtain ⟨fuel, hf⟩ := h
  obtain ⟨hl, m, hff⟩ := rd_field Try.underlying25 ⟨_, hf⟩
  have h0 : Rd enc W m 22 (((Value.agg cs).cells.toList.drop 0).take (Try.prog.cellsOf 22)) := hff 0 _ rfl
  have h1 : Rd enc W m 23 (((Value.agg cs).cells.toList.drop 1).take (Try.prog.cellsOf 23)) := hff 1 _ rfl
  have h2 : Rd enc W m 4 (((Value.agg cs).cells.toList.drop 2).take (Try.prog.cellsOf 4)) := hff 2 _ rfl
  rw [c25] at hl
  rw [c22] at h0
  rw [c23] at h1
  rw [c4] at h2
  have hcs : (Value.agg cs).cells.toList = cs.toList := rfl
  rw [hcs] at hl h0 h1 h2
  obtain ⟨a, b, c, e⟩ := len3 hl
  rw [e] at h0 h1 h2
  obtain ⟨x, l, e0, k0⟩ := rd_pages h0
  obtain ⟨y, m, e1, k1⟩ := rd_writes h1
  obtain ⟨z, e2⟩ := rd_bool Try.underlying4 h2
  simp at e0 e1 e2
  refine ⟨⟨l, m, z⟩, x, y, ?_, k0, k1⟩
  congr 1
  apply Array.toList_inj.1
  rw [e, e0, e1, e2]
set_option maxRecDepth 100000 in
theorem bytes_of_read (hv : Value.okWide Try.prog W .any base 26 v) (h : DataW.Trod enc Try.prog W 0 (fun _ => true) true 26 v d p) : ∃ l, IsBytes W v l := by
  obtain ⟨a0, len0, cap0, rfl⟩ := okWide_slice Try.underlying26 hv
  obtain ⟨fuel, hf⟩ := h
  obtain ⟨u, l, e, hr⟩ := rd_bytes ⟨_, hf⟩
  have : u = .slice a0 len0 cap0 := by simpa [Value.cells] using e.symm
  exact ⟨l, this ▸ hr⟩
end
end
end Go.Proofs.Ytcembocnkndlhaa
