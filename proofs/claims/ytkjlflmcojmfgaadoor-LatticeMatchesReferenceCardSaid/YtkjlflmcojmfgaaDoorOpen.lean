/- How the rows' arguments read: numbers, bytes, lattices; the key words as the rows list them. -/
import Derived.Test.YtkjlflmcojmfgaaDoorCards
import Derived.Test.YtkjlflmcojmfgaaDoorTie
import Derived.Test.YtkjlflmcojmfgaaDoorMem
import Derived.ProofKit
import Derived.OpenShut
import Derived.ShutString
import Derived.ChangeOld
import Derived.Below
import Derived.ChangeSame
import Derived.Deep.Slices
import Derived.Deep.Fields
import Derived.Deep.DeepHandedRow
import Derived.Lib.LaidTab
namespace Go.Proofs.YtkjlflmcojmfgaaDoor
open Go.ChangeShapes Go.WideShapes Go.ChangeAt Go.RowKit Go.Deep
theorem wf_5 {z : Int} (h : (Lit.int .u8 z).wf = true) : 0 ≤ z ∧ z < 256 := by
  simp [Lit.wf, IntKind.min, IntKind.max, IntKind.signed, IntKind.bits] at h; omega
theorem own : ownKnob Tryd.prog.godebug = none := by kernel_rfl
theorem laidOut : laidOutB Tryd.prog = true := by kernel_rfl
section
variable {H : Type} {enc : TypeId × Value → H} {W : World}
/-- Whatever reads as type t: its cells. -/
abbrev Rd (enc : TypeId × Value → H) (W : World) (n : Nat) (t : TypeId) (cs : List Value) : Prop := ∃ y, DataW.trod enc Tryd.prog W 0 (fun _ => true) true n t cs = some y
theorem rd_int {n : Nat} {t : TypeId} {cs : List Value} (ht : Tryd.prog.underlying t = some (.int .i64)) (h : Rd enc W n t cs) : ∃ z, cs = [.int .i64 z] := by
  obtain ⟨y, h⟩ := h
  obtain ⟨z, e, _⟩ := DataW.trod_int ht h
  exact ⟨z, e⟩
theorem rd_u8 {n : Nat} {t : TypeId} {cs : List Value} (ht : Tryd.prog.underlying t = some (.int .u8)) (h : Rd enc W n t cs) : ∃ z : Int, cs = [.int .u8 z] ∧ 0 ≤ z ∧ z < 256 := by
  obtain ⟨y, h⟩ := h
  obtain ⟨z, e, _, hw⟩ := DataW.trod_int ht h
  simp [Lit.wf, IntKind.min, IntKind.max, IntKind.signed, IntKind.bits] at hw
  exact ⟨z, e, by omega, by omega⟩
theorem rd_bool {n : Nat} {t : TypeId} {cs : List Value} (ht : Tryd.prog.underlying t = some .bool) (h : Rd enc W n t cs) : ∃ b, cs = [.bool b] := by
  obtain ⟨y, h⟩ := h
  obtain ⟨z, e, _⟩ := DataW.trod_bool ht h
  exact ⟨z, e⟩
theorem rd_field {n : Nat} {t : TypeId} {cs : List Value} {fs : Array Field} (ht : Tryd.prog.underlying t = some (.struct fs)) (h : Rd enc W n t cs) :
    cs.length = Tryd.prog.cellsOf t ∧ ∃ m, ∀ (i : Nat) (f : Field), fs[i]? = some f → Rd enc W m f.type ((cs.drop f.offset).take (Tryd.prog.cellsOf f.type)) := by
  obtain ⟨y, h⟩ := h
  obtain ⟨xs, m, _, _, hl, hxl, hf⟩ := DataW.trod_struct ht h
  refine ⟨hl, m, fun i f hi => ?_⟩
  have := hf i f hi
  have hlt : i < xs.length := by rw [hxl]; exact (Array.getElem?_eq_some_iff.1 hi).1
  exact ⟨xs[i], by rw [this]; exact List.getElem?_eq_getElem hlt⟩
/-- A slice whose elements read. -/
theorem rd_slice {α : Type} {n : Nat} {t e k : Nat} {cs : List Value} (en : α → List Value) (ok : α → Prop) (ht : Tryd.prog.underlying t = some (.slice e)) (hk : Tryd.prog.cellsOf e = k) (hk0 : 0 < k)
    (hel : ∀ m cs, Rd enc W m e cs → ∃ x, cs = en x ∧ ok x) (h : Rd enc W n t cs) : ∃ v l, cs = [v] ∧ IsRows k en W v l ∧ ∀ x ∈ l, ok x := by
  obtain ⟨y, h⟩ := h
  rcases open_slice ht h with ⟨hcs, _⟩ | ⟨a, len, cap, m, n', D, Pl, hcs, _, hl, hm, hmm, _, hi⟩
  · exact ⟨_, [], hcs, ⟨none, 0, rfl, .inl rfl, by simp, by simp, by simp⟩, by simp⟩
  · simp only [if_true] at hmm
    subst hmm
    rw [hk] at hi
    have key : ∀ i, i < len → ∃ x, ok x ∧ ∀ j u, (en x)[j]? = some u → W.cell? ((a.add (i * k)).add j) = some u := by
      intro i hil
      obtain ⟨cs', hc, ht'⟩ := hi i (by omega)
      obtain ⟨_, hcl, hat⟩ := World.cells?_some hc
      obtain ⟨x, hx, hox⟩ := hel _ _ ⟨_, ht'⟩
      refine ⟨x, hox, fun j u hj => ?_⟩
      rw [← hx] at hj
      have hjl : j < k := by have := (List.getElem?_eq_some_iff.1 hj).1; omega
      rw [hat j hjl, hj]
    have hlen : ∀ i, i < len → ∃ x, ok x ∧ (en x).length = k := by
      intro i hil
      obtain ⟨cs', hc, ht'⟩ := hi i (by omega)
      obtain ⟨_, hcl, hat⟩ := World.cells?_some hc
      obtain ⟨x, hx, hox⟩ := hel _ _ ⟨_, ht'⟩
      exact ⟨x, hox, by rw [← hx]; exact hcl⟩
    have hlm : len ≤ 9223372036854775807 := by unfold maxLen at hm; omega
    rcases Nat.eq_zero_or_pos len with h0 | h0
    · subst h0
      exact ⟨_, [], hcs, ⟨some a, m, rfl, .inl rfl, by simp, by simp, by unfold maxLen at hm; omega⟩, by simp⟩
    · obtain ⟨x0, hox0, _⟩ := key 0 h0
      have key' : ∀ i, ∃ x, i < len → (ok x ∧ ∀ j u, (en x)[j]? = some u → W.cell? ((a.add (i * k)).add j) = some u) := by
        intro i
        by_cases h : i < len
        · obtain ⟨x, hx⟩ := key i h
          exact ⟨x, fun _ => hx⟩
        · exact ⟨x0, fun h' => absurd h' h⟩
      let f : Nat → α := fun i => Classical.choose (key' i)
      have hf : ∀ i, i < len → (ok (f i) ∧ ∀ j u, (en (f i))[j]? = some u → W.cell? ((a.add (i * k)).add j) = some u) := fun i => Classical.choose_spec (key' i)
      obtain ⟨b, off, spot⟩ := a
      have hsp : spot = none := by
        obtain ⟨cs', hc, ht'⟩ := hi 0 (by omega)
        obtain ⟨_, hcl, hat⟩ := World.cells?_some hc
        have h1 := hat 0 hk0
        rw [List.getElem?_eq_getElem (by omega)] at h1
        simpa [Addr.add] using World.cell?_spot h1
      subst hsp
      refine ⟨_, (List.range len).map f, hcs, ⟨some ⟨b, off, none⟩, m, by simp, .inr ⟨b, off, rfl, fun i x hix j u hj => ?_⟩, by simpa using hlm, by simpa using hl, by unfold maxLen at hm; omega⟩, ?_⟩
      · rw [List.getElem?_map] at hix
        obtain ⟨i', hi', rfl⟩ := Option.map_eq_some_iff.1 hix
        have hlt : i < len := by have := (List.getElem?_eq_some_iff.1 hi').1; simpa using this
        rw [List.getElem?_range hlt] at hi'
        obtain rfl : i = i' := by simpa using hi'
        have := (hf i hlt).2 j u hj
        have e : ((⟨b, off, none⟩ : Addr).add (i * k)).add j = ⟨b, off + i * k + j, none⟩ := by
          rw [Go.Deep.add_add]
          unfold Addr.add
          split
          · rename_i h; simp at h; simp
          · simp [Nat.add_assoc]
        rwa [e] at this
      · intro x hx
        obtain ⟨i, hi', rfl⟩ := List.mem_map.1 hx
        exact (hf i (by simpa using hi')).1
theorem rd_bytes {n : Nat} {cs : List Value} (h : Rd enc W n 40 cs) : ∃ v l, cs = [v] ∧ IsBytes W v l := by
  obtain ⟨v, l, e, hr, _⟩ := rd_slice (α := UInt8) encB (fun _ => True) Tryd.underlying40 (show Tryd.prog.cellsOf 5 = 1 by kernel_rfl) (by decide) (fun m cs h => by
    obtain ⟨z, e, h0, h1⟩ := rd_u8 Tryd.underlying5 h
    refine ⟨UInt8.ofNat z.toNat, ?_, trivial⟩
    rw [e]
    unfold encB
    have : ((UInt8.ofNat z.toNat).toNat : Int) = z := by
      rw [UInt8.toNat_ofNat']
      omega
    rw [this]) h
  exact ⟨v, l, e, hr⟩
theorem rd_name {n : Nat} {cs : List Value} (h : Rd enc W n 9 cs) : ∃ x : Nm, cs = [.string x.1] := by
  obtain ⟨y, h⟩ := h
  obtain ⟨z, e, _, hs⟩ := DataW.trod_string Tryd.underlying9 h
  exact ⟨⟨z, hs⟩, e⟩
theorem rd_names {n : Nat} {cs : List Value} (h : Rd enc W n 22 cs) : ∃ v l, cs = [v] ∧ IsNames W v l := by
  obtain ⟨v, l, e, hr, _⟩ := rd_slice (α := Nm) encS (fun _ => True) Tryd.underlying22 (show Tryd.prog.cellsOf 9 = 1 by kernel_rfl) (by decide) (fun m cs h => by
    obtain ⟨x, e⟩ := rd_name h
    exact ⟨x, e, trivial⟩) h
  exact ⟨v, l, e, hr⟩
theorem rd_ints {n : Nat} {cs : List Value} (h : Rd enc W n 26 cs) : ∃ v l, cs = [v] ∧ IsInts W v l := by
  obtain ⟨v, l, e, hr, _⟩ := rd_slice (α := Int) encI (fun _ => True) Tryd.underlying26 (show Tryd.prog.cellsOf 3 = 1 by kernel_rfl) (by decide) (fun m cs h => by
    obtain ⟨x, e⟩ := rd_int Tryd.underlying3 h
    exact ⟨x, e, trivial⟩) h
  exact ⟨v, l, e, hr⟩
theorem c3 : Tryd.prog.cellsOf 3 = 1 := by kernel_rfl
theorem c9 : Tryd.prog.cellsOf 9 = 1 := by kernel_rfl
theorem c22 : Tryd.prog.cellsOf 22 = 1 := by kernel_rfl
theorem c23 : Tryd.prog.cellsOf 23 = 1 := by kernel_rfl
theorem c39 : Tryd.prog.cellsOf 39 = 2 := by kernel_rfl
theorem c25 : Tryd.prog.cellsOf 25 = 4 := by kernel_rfl
theorem len2 {cs : List Value} (h : cs.length = 2) : ∃ a b, cs = [a, b] := by
  match cs, h with
  | [a, b], _ => exact ⟨a, b, rfl⟩
theorem len4 {cs : List Value} (h : cs.length = 4) : ∃ a b c d, cs = [a, b, c, d] := by
  match cs, h with
  | [a, b, c, d], _ => exact ⟨a, b, c, d, rfl⟩
theorem rd_pair {n : Nat} {cs : List Value} (h : Rd enc W n 39 cs) : ∃ c : Int × Int, cs = encC c := by
  obtain ⟨y, h⟩ := h
  obtain ⟨xs, m, _, _, hl, hxl, hf⟩ := DataW.trod_array Tryd.underlying39 h
  rw [c39] at hl
  obtain ⟨a, b, rfl⟩ := len2 hl
  have h0 := hf 0 (by decide)
  have h1 := hf 1 (by decide)
  rw [c3] at h0 h1
  obtain ⟨z0, e0⟩ := rd_int (enc := enc) (W := W) Tryd.underlying3 ⟨_, h0.trans (List.getElem?_eq_getElem (by omega))⟩
  obtain ⟨z1, e1⟩ := rd_int (enc := enc) (W := W) Tryd.underlying3 ⟨_, h1.trans (List.getElem?_eq_getElem (by omega))⟩
  simp at e0 e1
  exact ⟨(z0, z1), by rw [e0, e1]; rfl⟩
theorem rd_covers {n : Nat} {cs : List Value} (h : Rd enc W n 23 cs) : ∃ v l, cs = [v] ∧ IsCovers W v l := by
  obtain ⟨v, l, e, hr, _⟩ := rd_slice (α := Int × Int) encC (fun _ => True) Tryd.underlying23 c39 (by decide) (fun m cs h => by
    obtain ⟨x, e⟩ := rd_pair h
    exact ⟨x, e, trivial⟩) h
  exact ⟨v, l, e, hr⟩
/-! ### the arguments -/
section
variable {base : Nat} {v : Value} {d : DataW H} {p : List MemPlace}
set_option maxRecDepth 100000 in
theorem ltc_of_read (hv : Value.okWide Tryd.prog W .any base 25 v) (h : DataW.Trod enc Tryd.prog W 0 (fun _ => true) true 25 v d p) : ∃ L, IsLtc W v L := by
  obtain ⟨cs, rfl, _⟩ := okWide_struct Tryd.underlying25 hv
  obtain ⟨fuel, hf⟩ := h
  obtain ⟨hl, m, hff⟩ := rd_field Tryd.underlying25 ⟨_, hf⟩
  have h0 : Rd enc W m 9 (((Value.agg cs).cells.toList.drop 0).take (Tryd.prog.cellsOf 9)) := hff 0 _ rfl
  have h1 : Rd enc W m 22 (((Value.agg cs).cells.toList.drop 1).take (Tryd.prog.cellsOf 22)) := hff 1 _ rfl
  have h2 : Rd enc W m 23 (((Value.agg cs).cells.toList.drop 2).take (Tryd.prog.cellsOf 23)) := hff 2 _ rfl
  have h3 : Rd enc W m 3 (((Value.agg cs).cells.toList.drop 3).take (Tryd.prog.cellsOf 3)) := hff 3 _ rfl
  rw [c25] at hl
  rw [c9] at h0
  rw [c22] at h1
  rw [c23] at h2
  rw [c3] at h3
  have hcs : (Value.agg cs).cells.toList = cs.toList := rfl
  rw [hcs] at hl h0 h1 h2 h3
  obtain ⟨a, b, c, d, e⟩ := len4 hl
  rw [e] at h0 h1 h2 h3
  obtain ⟨x0, e0⟩ := rd_name h0
  obtain ⟨x1, l1, e1, k1⟩ := rd_names h1
  obtain ⟨x2, l2, e2, k2⟩ := rd_covers h2
  obtain ⟨x3, e3⟩ := rd_int Tryd.underlying3 h3
  simp at e0 e1 e2 e3
  refine ⟨⟨x0, l1, l2, x3⟩, x1, x2, ?_, k1, k2⟩
  congr 1
  apply Array.toList_inj.1
  rw [e, e0, e1, e2, e3]
set_option maxRecDepth 100000 in
theorem bytes_of_read (hv : Value.okWide Tryd.prog W .any base 40 v) (h : DataW.Trod enc Tryd.prog W 0 (fun _ => true) true 40 v d p) : ∃ l, IsBytes W v l := by
  obtain ⟨a0, len0, cap0, rfl⟩ := okWide_slice Tryd.underlying40 hv
  obtain ⟨fuel, hf⟩ := h
  obtain ⟨u, l, e, hr⟩ := rd_bytes ⟨_, hf⟩
  have : u = .slice a0 len0 cap0 := by simpa [Value.cells] using e.symm
  exact ⟨l, this ▸ hr⟩
set_option maxRecDepth 100000 in
theorem ints_of_read (hv : Value.okWide Tryd.prog W .any base 26 v) (h : DataW.Trod enc Tryd.prog W 0 (fun _ => true) true 26 v d p) : ∃ l, IsInts W v l := by
  obtain ⟨a0, len0, cap0, rfl⟩ := okWide_slice Tryd.underlying26 hv
  obtain ⟨fuel, hf⟩ := h
  obtain ⟨u, l, e, hr⟩ := rd_ints ⟨_, hf⟩
  have : u = .slice a0 len0 cap0 := by simpa [Value.cells] using e.symm
  exact ⟨l, this ▸ hr⟩
end
end
/-! ### the key words -/
theorem gKeys : Tryd.prog.globalNamed "porism/lattice.keys" = some 0 := by kernel_rfl
theorem gKeysType : (Tryd.prog.globals[0]?).map (·.type) = some 22 := by kernel_rfl
theorem gKeys1 : Tryd.prog.globalNamed "porism/porismref03.Keys" = some 1 := by kernel_rfl
theorem gKeysType1 : (Tryd.prog.globals[1]?).map (·.type) = some 22 := by kernel_rfl
theorem keyBytes_lits : (keyBytes.map fun b => DataW.lit (H := Unit) (.string b)) = [.lit (.string [108, 97, 116, 116, 105, 99, 101]), .lit (.string [102, 117, 110, 99, 116, 105, 111, 110]), .lit (.string [111, 110]), .lit (.string [98, 97, 115, 101]), .lit (.string [118, 105, 101, 119]), .lit (.string [107, 101, 121]), .lit (.string [100, 101, 110, 121]), .lit (.string [110, 111, 116]), .lit (.string [105, 110, 116]), .lit (.string [115, 121, 109])] := rfl
theorem keys_of {W : World} {name : String} {g : Nat} {rest : List (String × DataW Unit)} (hg : Tryd.prog.globalNamed name = some g) (hty : (Tryd.prog.globals[g]?).map (·.type) = some 22)
    (h : ∃ ps, DataW.LaidVars Tryd.prog W ((name, .slice (keyBytes.map fun b => DataW.lit (.string b)) []) :: rest) ps) : KeysAt W g := by
  obtain ⟨ps, g', t', cs, fuel, p, q, hg', ht', hvar, hd, _, _⟩ := h
  obtain rfl := Option.some.inj (hg.symm.trans hg')
  obtain rfl := Option.some.inj (hty.symm.trans ht')
  rcases open_slice Tryd.underlying22 hd with ⟨_, hx⟩ | ⟨a, len, cap, m, n, D, Pl, hcs, _, hl, hm, hmm, hx, hi⟩
  · simp at hx
  · simp only [if_true] at hmm
    obtain rfl : m = _ := hmm
    simp only [Prod.mk.injEq, DataW.slice.injEq] at hx
    obtain ⟨⟨hx1, hx2⟩, _⟩ := hx
    have hlen : len = 10 := by
      have := congrArg List.length hx1
      simp [keyBytes] at this
      omega
    subst hlen
    have hcell : W.cell? ⟨g, 0, none⟩ = some (.slice (some a) 10 m) := by
      rw [World.var?_cell hg hvar 0]
      have : cs.toList[0]? = some (.slice (some a) 10 m) := by rw [hcs]; rfl
      simpa using this
    have key : ∀ i (x : Nm), keyNames[i]? = some x → W.cell? (a.add (i * 1)) = some (.string x.1) := by
      intro i x hix
      have hi10 : i < 10 := by
        have := (List.getElem?_eq_some_iff.1 hix).1
        simpa [keyNames] using this
      obtain ⟨cs', hc, ht⟩ := hi i (by omega)
      rw [c9] at hc
      obtain ⟨s, e, hs, _⟩ := DataW.trod_string Tryd.underlying9 ht
      obtain ⟨_, hcl, hat⟩ := World.cells?_some hc
      have h0 := hat 0 (by decide)
      rw [e] at h0
      have hb : D i = .lit (.string x.1.data.toList) := by
        have h1 : (keyBytes.map fun b => DataW.lit (H := Unit) (.string b))[i]? = some (D i) := by
          rw [hx1]; simp [hi10]
        have h2 : keyBytes[i]? = some x.1.data.toList := by
          rw [show keyBytes = keyNames.map fun y => y.1.data.toList from rfl, List.getElem?_map, hix]; rfl
        rw [List.getElem?_map, h2] at h1
        exact (Option.some.inj h1).symm
      rw [hb] at hs
      simp at hs
      have hsx : s = x.1 := by
        have hd : s.data = x.1.data := by
          rw [← Array.toArray_toList (xs := s.data), ← Array.toArray_toList (xs := x.1.data)]
          rw [hs.1]
        cases s; cases hx' : x.1 with
        | mk d' => rw [hx'] at hd; dsimp only at hd; rw [hd]
      subst hsx
      have : (a.add (i * 1)).add 0 = a.add (i * 1) := by simp [Addr.add]
      rw [this] at h0
      simpa using h0
    obtain ⟨b, off, spot⟩ := a
    have hsp : spot = none := by
      have h0 := key 0 _ (show keyNames[0]? = some (mkNm [108, 97, 116, 116, 105, 99, 101] (by decide)) from rfl)
      simpa [Addr.add] using World.cell?_spot h0
    subst hsp
    refine ⟨_, _, hcell, some ⟨b, off, none⟩, m, rfl, .inr ⟨b, off, rfl, fun i x hix j u hj => ?_⟩, by decide, by simpa [keyNames] using hl, by unfold maxLen at hm; omega⟩
    have hj0 : j = 0 := by
      have := (List.getElem?_eq_some_iff.1 hj).1
      simp [encS] at this; exact this
    subst hj0
    obtain rfl : u = .string x.1 := by simpa [encS] using hj.symm
    have := key i x hix
    have e : (⟨b, off, none⟩ : Addr).add (i * 1) = ⟨b, off + i * 1, none⟩ := by
      unfold Addr.add
      split
      · rename_i h0; rw [Nat.mul_one] at h0; subst h0; simp
      · rfl
    rwa [e] at this
theorem keys_of_laid {W : World} (h : laidMetH Tryd.prog [("porism/lattice.keys", Rows.laid_porism_lattice_keys)] W) : KeysAt W 0 := by
  obtain ⟨ps, h, _⟩ := (show laidMet Tryd.prog [("porism/lattice.keys", Rows.laid_porism_lattice_keys)] W from h)
  exact keys_of gKeys gKeysType ⟨ps, h⟩
theorem keys_of_laid2 {W : World} (h : laidMetH Tryd.prog [("porism/lattice.keys", Rows.laid_porism_lattice_keys), ("porism/porismref03.Keys", Rows.laid_porism_porismref03_Keys)] W) : KeysAt W 0 ∧ KeysAt W 1 := by
  obtain ⟨ps, h, _⟩ := (show laidMet Tryd.prog [("porism/lattice.keys", Rows.laid_porism_lattice_keys), ("porism/porismref03.Keys", Rows.laid_porism_porismref03_Keys)] W from h)
  have h1 := h
  obtain ⟨g', t', cs, fuel, p, q, _, _, _, _, hr, _⟩ := h1
  exact ⟨keys_of gKeys gKeysType ⟨ps, h⟩, keys_of gKeys1 gKeysType1 ⟨q, hr⟩⟩
end Go.Proofs.YtkjlflmcojmfgaaDoor
