/- Parts Open, OpT: words, walks and laws that the claims of this seat share. -/
import Derived.Test.YtdibijhaiaiifaaDoorJ12
import Derived.Test.YtdibijhaiaiifaaDoorJ22
import Derived.Test.YtdibijhaiaiifaaDoorCards
import Derived.Test.YtdibijhaiaiifaaDoorTie
import Derived.ProofKit
import Derived.OpenShut
import Derived.ShutString
import Derived.ChangeOld
import Derived.Below
import Derived.ChangeSame
import Derived.Deep.Slices
import Derived.Deep.Fields
import Derived.Deep.DeepHandedRow
import Derived.Lib.LaidTab
import Derived.SizedLaws
/- How the rows' arguments read: numbers, values, tuples, spans, relations, terms; the tables as the rows list them. -/
namespace Go.Proofs.YtdibijhaiaiifaaDoor
open Go.ChangeShapes Go.WideShapes Go.ChangeAt Go.RowKit Go.Deep
theorem own : ownKnob Tryd.prog.godebug = none := by kernel_rfl
theorem laidOut : laidOutB Tryd.prog = true := by kernel_rfl
section
variable {H : Type} {enc : TypeId × Value → H} {W : World}
/-- Whatever reads as type t: its cells. -/
abbrev Rd (enc : TypeId × Value → H) (W : World) (n : Nat) (t : TypeId) (cs : List Value) : Prop := ∃ y, DataW.trod enc Tryd.prog W 0 (fun _ => true) true n t cs = some y
theorem rd_int {n : Nat} {t : TypeId} {cs : List Value} (ht : Tryd.prog.underlying t = some (.int .i64)) (h : Rd enc W n t cs) : ∃ z, cs = [.int .i64 z] := by
  obtain ⟨y, h⟩ := h
  obtain ⟨z, e, _⟩ := DataW.trod_int ht h
  exact ⟨z, e⟩
theorem rd_field {n : Nat} {t : TypeId} {cs : List Value} {fs : Array Field} (ht : Tryd.prog.underlying t = some (.struct fs)) (h : Rd enc W n t cs) :
    cs.length = Tryd.prog.cellsOf t ∧ ∃ m, ∀ (i : Nat) (f : Field), fs[i]? = some f → Rd enc W m f.type ((cs.drop f.offset).take (Tryd.prog.cellsOf f.type)) := by
  obtain ⟨y, h⟩ := h
  obtain ⟨xs, m, _, _, hl, hxl, hf⟩ := DataW.trod_struct ht h
  refine ⟨hl, m, fun i f hi => ?_⟩
  have := hf i f hi
  have hlt : i < xs.length := by rw [hxl]; exact (Array.getElem?_eq_some_iff.1 hi).1
  exact ⟨xs[i], by rw [this]; exact List.getElem?_eq_getElem hlt⟩
/-- A slice whose elements read. -/
theorem rd_slice {α : Type} {n : Nat} {t e k : Nat} {cs : List Value} (en : α → List Value) (ok : α → Prop) (ht : Tryd.prog.underlying t = some (.slice e)) (hk : Tryd.prog.cellsOf e = k) (hk0 : 0 < k)
    (hel : ∀ m cs, Rd enc W m e cs → ∃ x, cs = en x ∧ ok x) (h : Rd enc W n t cs) : ∃ v l, cs = [v] ∧ IsRows k en W v l ∧ ∀ x ∈ l, ok x := by
  obtain ⟨y, h⟩ := h
  rcases open_slice ht h with ⟨hcs, _⟩ | ⟨a, len, cap, m, n', D, Pl, hcs, _, hl, hm, hmm, _, hi⟩
  · exact ⟨_, [], hcs, ⟨none, 0, rfl, .inl rfl, by simp, by simp, by simp⟩, by simp⟩
  · simp only [if_true] at hmm
    subst hmm
    rw [hk] at hi
    have key : ∀ i, i < len → ∃ x, ok x ∧ ∀ j u, (en x)[j]? = some u → W.cell? ((a.add (i * k)).add j) = some u := by
      intro i hil
      obtain ⟨cs', hc, ht'⟩ := hi i (by omega)
      obtain ⟨_, hcl, hat⟩ := World.cells?_some hc
      obtain ⟨x, hx, hox⟩ := hel _ _ ⟨_, ht'⟩
      refine ⟨x, hox, fun j u hj => ?_⟩
      rw [← hx] at hj
      have hjl : j < k := by have := (List.getElem?_eq_some_iff.1 hj).1; omega
      rw [hat j hjl, hj]
    have hlen : ∀ i, i < len → ∃ x, ok x ∧ (en x).length = k := by
      intro i hil
      obtain ⟨cs', hc, ht'⟩ := hi i (by omega)
      obtain ⟨_, hcl, hat⟩ := World.cells?_some hc
      obtain ⟨x, hx, hox⟩ := hel _ _ ⟨_, ht'⟩
      exact ⟨x, hox, by rw [← hx]; exact hcl⟩
    have hlm : len ≤ 9223372036854775807 := by unfold maxLen at hm; omega
    rcases Nat.eq_zero_or_pos len with h0 | h0
    · subst h0
      exact ⟨_, [], hcs, ⟨some a, m, rfl, .inl rfl, by simp, by simp, by unfold maxLen at hm; omega⟩, by simp⟩
    · obtain ⟨x0, hox0, _⟩ := key 0 h0
      have key' : ∀ i, ∃ x, i < len → (ok x ∧ ∀ j u, (en x)[j]? = some u → W.cell? ((a.add (i * k)).add j) = some u) := by
        intro i
        by_cases h : i < len
        · obtain ⟨x, hx⟩ := key i h
          exact ⟨x, fun _ => hx⟩
        · exact ⟨x0, fun h' => absurd h' h⟩
      let f : Nat → α := fun i => Classical.choose (key' i)
      have hf : ∀ i, i < len → (ok (f i) ∧ ∀ j u, (en (f i))[j]? = some u → W.cell? ((a.add (i * k)).add j) = some u) := fun i => Classical.choose_spec (key' i)
      obtain ⟨b, off, spot⟩ := a
      have hsp : spot = none := by
        obtain ⟨cs', hc, ht'⟩ := hi 0 (by omega)
        obtain ⟨_, hcl, hat⟩ := World.cells?_some hc
        have h1 := hat 0 hk0
        rw [List.getElem?_eq_getElem (by omega)] at h1
        simpa [Addr.add] using World.cell?_spot h1
      subst hsp
      refine ⟨_, (List.range len).map f, hcs, ⟨some ⟨b, off, none⟩, m, by simp, .inr ⟨b, off, rfl, fun i x hix j u hj => ?_⟩, by simpa using hlm, by simpa using hl, by unfold maxLen at hm; omega⟩, ?_⟩
      · rw [List.getElem?_map] at hix
        obtain ⟨i', hi', rfl⟩ := Option.map_eq_some_iff.1 hix
        have hlt : i < len := by have := (List.getElem?_eq_some_iff.1 hi').1; simpa using this
        rw [List.getElem?_range hlt] at hi'
        obtain rfl : i = i' := by simpa using hi'
        have := (hf i hlt).2 j u hj
        have e : ((⟨b, off, none⟩ : Addr).add (i * k)).add j = ⟨b, off + i * k + j, none⟩ := by
          rw [Go.Deep.add_add]
          unfold Addr.add
          split
          · rename_i h; simp at h; simp
          · simp [Nat.add_assoc]
        rwa [e] at this
      · intro x hx
        obtain ⟨i, hi', rfl⟩ := List.mem_map.1 hx
        exact (hf i (by simpa using hi')).1
theorem rd_str {n : Nat} {cs : List Value} (h : Rd enc W n 9 cs) : ∃ s : List UInt8, cs = [strV s] ∧ s.length ≤ 9223372036854775807 := by
  obtain ⟨y, h⟩ := h
  obtain ⟨z, e, _, hs⟩ := DataW.trod_string Tryd.underlying9 h
  refine ⟨z.data.toList, e.trans ?_, ?_⟩
  · cases z
    simp [strV]
  · have : z.data.size ≤ maxLen := hs
    unfold maxLen at this
    simpa using this
theorem c3 : Tryd.prog.cellsOf 3 = 1 := by kernel_rfl
theorem c9 : Tryd.prog.cellsOf 9 = 1 := by kernel_rfl
theorem c58 : Tryd.prog.cellsOf 58 = 3 := by kernel_rfl
theorem c86 : Tryd.prog.cellsOf 86 = 2 := by kernel_rfl
theorem c44 : Tryd.prog.cellsOf 44 = 2 := by kernel_rfl
theorem c60 : Tryd.prog.cellsOf 60 = 4 := by kernel_rfl
theorem c25 : Tryd.prog.cellsOf 25 = 1 := by kernel_rfl
theorem c26 : Tryd.prog.cellsOf 26 = 1 := by kernel_rfl
theorem len2 {cs : List Value} (h : cs.length = 2) : ∃ a b, cs = [a, b] := by
  match cs, h with
  | [a, b], _ => exact ⟨a, b, rfl⟩
theorem len3 {cs : List Value} (h : cs.length = 3) : ∃ a b c, cs = [a, b, c] := by
  match cs, h with
  | [a, b, c], _ => exact ⟨a, b, c, rfl⟩
theorem len4 {cs : List Value} (h : cs.length = 4) : ∃ a b c d, cs = [a, b, c, d] := by
  match cs, h with
  | [a, b, c, d], _ => exact ⟨a, b, c, d, rfl⟩
theorem rd_val {n : Nat} {cs : List Value} (h : Rd enc W n 58 cs) : ∃ x : Vl, cs = encVl x := by
  obtain ⟨hl, m, hff⟩ := rd_field Tryd.underlying58 h
  rw [c58] at hl
  obtain ⟨a, b, c, rfl⟩ := len3 hl
  have h0 : Rd enc W m 3 (([a, b, c].drop 0).take (Tryd.prog.cellsOf 3)) := hff 0 _ rfl
  have h1 : Rd enc W m 3 (([a, b, c].drop 1).take (Tryd.prog.cellsOf 3)) := hff 1 _ rfl
  have h2 : Rd enc W m 9 (([a, b, c].drop 2).take (Tryd.prog.cellsOf 9)) := hff 2 _ rfl
  rw [c3] at h0 h1
  rw [c9] at h2
  obtain ⟨z0, e0⟩ := rd_int Tryd.underlying3 h0
  obtain ⟨z1, e1⟩ := rd_int Tryd.underlying3 h1
  obtain ⟨z2, e2, o2⟩ := rd_str h2
  simp at e0 e1 e2
  exact ⟨⟨z0, z1, z2, o2⟩, by rw [e0, e1, e2]; rfl⟩
theorem rd_span {n : Nat} {cs : List Value} (h : Rd enc W n 86 cs) : ∃ x : Sp, cs = encSp x := by
  obtain ⟨hl, m, hff⟩ := rd_field Tryd.underlying86 h
  rw [c86] at hl
  obtain ⟨a, b, rfl⟩ := len2 hl
  have h0 : Rd enc W m 3 (([a, b].drop 0).take (Tryd.prog.cellsOf 3)) := hff 0 _ rfl
  have h1 : Rd enc W m 3 (([a, b].drop 1).take (Tryd.prog.cellsOf 3)) := hff 1 _ rfl
  rw [c3] at h0 h1
  obtain ⟨z0, e0⟩ := rd_int Tryd.underlying3 h0
  obtain ⟨z1, e1⟩ := rd_int Tryd.underlying3 h1
  simp at e0 e1
  exact ⟨(z0, z1), by rw [e0, e1]; rfl⟩
theorem rd_term {n : Nat} {cs : List Value} (h : Rd enc W n 60 cs) : ∃ x : Tm, cs = encTm x := by
  obtain ⟨hl, m, hff⟩ := rd_field Tryd.underlying60 h
  rw [c60] at hl
  obtain ⟨a, b, c, d, rfl⟩ := len4 hl
  have h0 : Rd enc W m 9 (([a, b, c, d].drop 0).take (Tryd.prog.cellsOf 9)) := hff 0 _ rfl
  have h1 : Rd enc W m 58 (([a, b, c, d].drop 1).take (Tryd.prog.cellsOf 58)) := hff 1 _ rfl
  rw [c9] at h0
  rw [c58] at h1
  obtain ⟨z0, e0, o0⟩ := rd_str h0
  obtain ⟨z1, e1⟩ := rd_val h1
  simp [encVl] at e0 e1
  exact ⟨⟨z0, z1, o0⟩, by rw [e0, e1.1, e1.2.1, e1.2.2]; rfl⟩
theorem rd_ints {n : Nat} {cs : List Value} (h : Rd enc W n 22 cs) : ∃ v l, cs = [v] ∧ IsInts W v l := by
  obtain ⟨v, l, e, hr, _⟩ := rd_slice (α := Int) encI (fun _ => True) Tryd.underlying22 c3 (by decide) (fun m cs h => by
    obtain ⟨x, e⟩ := rd_int Tryd.underlying3 h
    exact ⟨x, e, trivial⟩) h
  exact ⟨v, l, e, hr⟩
theorem rd_vals {n : Nat} {cs : List Value} (h : Rd enc W n 25 cs) : ∃ v l, cs = [v] ∧ IsVals W v l := by
  obtain ⟨v, l, e, hr, _⟩ := rd_slice (α := Vl) encVl (fun _ => True) Tryd.underlying25 c58 (by decide) (fun m cs h => by
    obtain ⟨x, e⟩ := rd_val h
    exact ⟨x, e, trivial⟩) h
  exact ⟨v, l, e, hr⟩
theorem rd_spans {n : Nat} {cs : List Value} (h : Rd enc W n 26 cs) : ∃ v l, cs = [v] ∧ IsSpans W v l := by
  obtain ⟨v, l, e, hr, _⟩ := rd_slice (α := Sp) encSp (fun _ => True) Tryd.underlying26 c86 (by decide) (fun m cs h => by
    obtain ⟨x, e⟩ := rd_span h
    exact ⟨x, e, trivial⟩) h
  exact ⟨v, l, e, IsSpans.of_rows hr⟩
theorem rd_terms {n : Nat} {cs : List Value} (h : Rd enc W n 39 cs) : ∃ v l, cs = [v] ∧ IsTerms W v l := by
  obtain ⟨v, l, e, hr, _⟩ := rd_slice (α := Tm) encTm (fun _ => True) Tryd.underlying39 c60 (by decide) (fun m cs h => by
    obtain ⟨x, e⟩ := rd_term h
    exact ⟨x, e, trivial⟩) h
  exact ⟨v, l, e, hr⟩
theorem rd_row {n : Nat} {cs : List Value} (h : Rd enc W n 44 cs) : ∃ x : RR, cs = encR x ∧ RowOk W x := by
  obtain ⟨hl, m, hff⟩ := rd_field Tryd.underlying44 h
  rw [c44] at hl
  obtain ⟨a, b, rfl⟩ := len2 hl
  have h0 : Rd enc W m 25 (([a, b].drop 0).take (Tryd.prog.cellsOf 25)) := hff 0 _ rfl
  have h1 : Rd enc W m 26 (([a, b].drop 1).take (Tryd.prog.cellsOf 26)) := hff 1 _ rfl
  rw [c25] at h0
  rw [c26] at h1
  obtain ⟨z0, l0, e0, k0⟩ := rd_vals h0
  obtain ⟨z1, l1, e1, k1⟩ := rd_spans h1
  simp at e0 e1
  obtain ⟨pa, ca, ea, ha⟩ := id k0
  obtain ⟨pw, cw, ew, hw⟩ := id k1
  refine ⟨⟨pa, ca, l0, pw, cw, l1⟩, by rw [e0, e1, ea, ew]; rfl, ?_, ?_⟩
  · rw [ea] at k0; exact k0
  · rw [ew] at k1; exact k1
theorem rd_rel {n : Nat} {cs : List Value} (h : Rd enc W n 24 cs) : ∃ v l, cs = [v] ∧ IsRel W v l := by
  obtain ⟨v, l, e, hr, hok⟩ := rd_slice (α := RR) encR (RowOk W) Tryd.underlying24 c44 (by decide) (fun m cs h => rd_row h) h
  exact ⟨v, l, e, hr, hok⟩
/-! ### the arguments -/
section
variable {base : Nat} {v : Value} {d : DataW H} {p : List MemPlace}
set_option maxRecDepth 100000 in
theorem ints_of_read (hv : Value.okWide Tryd.prog W .any base 22 v) (h : DataW.Trod enc Tryd.prog W 0 (fun _ => true) true 22 v d p) : ∃ l, IsInts W v l := by
  obtain ⟨a0, len0, cap0, rfl⟩ := okWide_slice Tryd.underlying22 hv
  obtain ⟨fuel, hf⟩ := h
  obtain ⟨u, l, e, hr⟩ := rd_ints ⟨_, hf⟩
  have : u = .slice a0 len0 cap0 := by simpa [Value.cells] using e.symm
  exact ⟨l, this ▸ hr⟩
set_option maxRecDepth 100000 in
theorem vals_of_read (hv : Value.okWide Tryd.prog W .any base 25 v) (h : DataW.Trod enc Tryd.prog W 0 (fun _ => true) true 25 v d p) : ∃ l, IsVals W v l := by
  obtain ⟨a0, len0, cap0, rfl⟩ := okWide_slice Tryd.underlying25 hv
  obtain ⟨fuel, hf⟩ := h
  obtain ⟨u, l, e, hr⟩ := rd_vals ⟨_, hf⟩
  have : u = .slice a0 len0 cap0 := by simpa [Value.cells] using e.symm
  exact ⟨l, this ▸ hr⟩
set_option maxRecDepth 100000 in
theorem spans_of_read (hv : Value.okWide Tryd.prog W .any base 26 v) (h : DataW.Trod enc Tryd.prog W 0 (fun _ => true) true 26 v d p) : ∃ l, IsSpans W v l := by
  obtain ⟨a0, len0, cap0, rfl⟩ := okWide_slice Tryd.underlying26 hv
  obtain ⟨fuel, hf⟩ := h
  obtain ⟨u, l, e, hr⟩ := rd_spans ⟨_, hf⟩
  have : u = .slice a0 len0 cap0 := by simpa [Value.cells] using e.symm
  exact ⟨l, this ▸ hr⟩
set_option maxRecDepth 100000 in
theorem terms_of_read (hv : Value.okWide Tryd.prog W .any base 39 v) (h : DataW.Trod enc Tryd.prog W 0 (fun _ => true) true 39 v d p) : ∃ l, IsTerms W v l := by
  obtain ⟨a0, len0, cap0, rfl⟩ := okWide_slice Tryd.underlying39 hv
  obtain ⟨fuel, hf⟩ := h
  obtain ⟨u, l, e, hr⟩ := rd_terms ⟨_, hf⟩
  have : u = .slice a0 len0 cap0 := by simpa [Value.cells] using e.symm
  exact ⟨l, this ▸ hr⟩
set_option maxRecDepth 100000 in
theorem rel_of_read (hv : Value.okWide Tryd.prog W .any base 24 v) (h : DataW.Trod enc Tryd.prog W 0 (fun _ => true) true 24 v d p) : ∃ l, IsRel W v l := by
  obtain ⟨a0, len0, cap0, rfl⟩ := okWide_slice Tryd.underlying24 hv
  obtain ⟨fuel, hf⟩ := h
  obtain ⟨u, l, e, hr⟩ := rd_rel ⟨_, hf⟩
  have : u = .slice a0 len0 cap0 := by simpa [Value.cells] using e.symm
  exact ⟨l, this ▸ hr⟩
end
end
/-! ### the tables -/
theorem gTab : Tryd.prog.globalNamed "math/bits.deBruijn64tab" = some 1 := by kernel_rfl
theorem gTabType : (Tryd.prog.globals[1]?).map (·.type) = some 152 := by kernel_rfl
theorem cells152 : Tryd.prog.cellsOf 152 = 64 := by kernel_rfl
theorem cells5 : Tryd.prog.cellsOf 5 = 1 := by kernel_rfl
def tabInts : List Int := [0, 1, 56, 2, 57, 49, 28, 3, 61, 58, 42, 50, 38, 29, 17, 4, 62, 47, 59, 36, 45, 43, 51, 22, 53, 39, 33, 30, 24, 18, 12, 5, 63, 55, 48, 27, 60, 41, 37, 16, 46, 35, 44, 21, 52, 32, 23, 11, 54, 26, 40, 15, 34, 20, 31, 10, 25, 14, 19, 9, 13, 8, 7, 6]
def theLaid : List (String × DataW Unit) := [("math/bits.deBruijn64tab", Rows.laid_math_bits_deBruijn64tab)]
theorem tab_at : ∀ j, j < 64 → tabInts.getD j 0 = ((Lib.deBruijn64tab.getD j 0 : Nat) : Int) := by decide +kernel
theorem tab_part {W : World} {rest : List (String × DataW Unit)} (h : laidMet Tryd.prog (("math/bits.deBruijn64tab", Rows.laid_math_bits_deBruijn64tab) :: rest) W) : ∀ j, j < 64 → W.cell? ⟨1, j, none⟩ = some (.int .u8 (Lib.deBruijn64tab.getD j 0)) := by
  have ht : Lib.TabIs Tryd.prog W "math/bits.deBruijn64tab" .u8 tabInts := Lib.tabIs_of_head (rest := rest) gTab gTabType Tryd.underlying152 Tryd.underlying5 cells5 cells152 h
  intro j hj
  have := ht.cell gTab j hj
  rw [tab_at j hj] at this
  exact this
theorem tab_of_laid {W : World} (h : laidMetH Tryd.prog theLaid W) : Tab W := tab_part h
noncomputable def tabCells : Array Value := (tabInts.map fun z => Value.int .u8 z).toArray
end Go.Proofs.YtdibijhaiaiifaaDoor
/- How a raw trie among the rows' arguments reads: by its datum's own recursion, each list within a machine's reach. -/
namespace Go.Proofs.YtdibijhaiaiifaaDoor
open Go.ChangeShapes Go.WideShapes Go.ChangeAt Go.RowKit Go.Deep
section
variable {H : Type} {enc : TypeId × Value → H} {W : World}
def WOk (t : TypeId) (d : DataW H) : Prop := (d.weights Tryd.prog t).all (· ≤ reachBytes) = true
theorem wok_each : ∀ {ts : List TypeId} {ds : List (DataW H)}, (DataW.weightsEach Tryd.prog ts ds).all (· ≤ reachBytes) = true → ∀ (i : Nat) (t : TypeId) (d : DataW H), ts[i]? = some t → ds[i]? = some d → WOk t d
  | [], _, _, i, t, d, h, _ => by simp at h
  | _ :: _, [], _, i, t, d, _, h => by simp at h
  | t0 :: ts, d0 :: ds, h, 0, t, d, h1, h2 => by
    simp only [DataW.weightsEach, List.all_append, Bool.and_eq_true] at h
    obtain rfl : t0 = t := by simpa using h1
    obtain rfl : d0 = d := by simpa using h2
    exact h.1
  | t0 :: ts, d0 :: ds, h, i + 1, t, d, h1, h2 => by
    simp only [DataW.weightsEach, List.all_append, Bool.and_eq_true] at h
    exact wok_each h.2 i t d (by simpa using h1) (by simpa using h2)
theorem wok_all {e : TypeId} : ∀ {ds : List (DataW H)}, (DataW.weightsAll Tryd.prog e ds).all (· ≤ reachBytes) = true → ∀ d ∈ ds, WOk e d
  | [], _, d, h => by cases h
  | d0 :: r, h, d, hd => by
    simp only [DataW.weightsAll, List.all_append, Bool.and_eq_true] at h
    rcases List.mem_cons.1 hd with rfl | hd
    · exact h.1
    · exact wok_all h.2 d hd
abbrev Trd (enc : TypeId × Value → H) (W : World) (n : Nat) (t : TypeId) (cs : List Value) (y : DataW H × List MemPlace) : Prop := DataW.trod enc Tryd.prog W 0 (fun _ => true) true n t cs = some y
theorem wz_slice {α : Type} {n : Nat} {t e k : Nat} {cs : List Value} {y : DataW H × List MemPlace} (en : α → List Value) (ok : α → Prop) (ht : Tryd.prog.underlying t = some (.slice e)) (hk : Tryd.prog.cellsOf e = k) (hk0 : 0 < k) (hb : 1 ≤ Tryd.prog.bytesOf e)
    (h : Trd enc W n t cs y) (hw : WOk t y.1) (hel : ∀ n', n = n' + 1 → ∀ cs z, Trd enc W n' e cs z → WOk e z.1 → ∃ x, cs = en x ∧ ok x) : ∃ v l, cs = [v] ∧ IsRows k en W v l ∧ (∀ x ∈ l, ok x) ∧ l.length ≤ reachBytes := by
  rcases DataW.trod_slice ht h with ⟨hcs, _⟩ | ⟨a, len, cap, elems, rest, n', hn, hcs, hy, _, hl, hm, hlen, hi, _, _⟩
  · exact ⟨_, [], hcs, ⟨none, 0, rfl, .inl rfl, by simp, by simp, by simp⟩, by simp, by simp⟩
  · rw [hk] at hi
    subst hy
    unfold WOk at hw
    simp only [DataW.weights, ht, List.all_cons, List.all_append, Bool.and_eq_true, decide_eq_true_eq, List.length_map] at hw
    have hlr : len ≤ reachBytes := by
      have h1 := hw.1
      have : len * 1 ≤ (elems.length + rest.length) * Tryd.prog.bytesOf e := Nat.mul_le_mul (by omega) hb
      omega
    have key : ∀ i, i < len → ∃ x, ok x ∧ ∀ j u, (en x)[j]? = some u → W.cell? ((a.add (i * k)).add j) = some u := by
      intro i hil
      have hi' := hi i hil
      rw [List.getElem?_eq_getElem (by omega)] at hi'
      obtain ⟨cs', hc, ht'⟩ := Option.bind_eq_some_iff.1 hi'
      obtain ⟨_, hcl, hat⟩ := World.cells?_some hc
      obtain ⟨x, hx, hox⟩ := hel n' hn cs' _ ht' (wok_all hw.2.1 _ (List.mem_map.2 ⟨_, List.getElem_mem _, rfl⟩))
      refine ⟨x, hox, fun j u hj => ?_⟩
      rw [← hx] at hj
      have hjl : j < k := by have := (List.getElem?_eq_some_iff.1 hj).1; omega
      rw [hat j hjl, hj]
    have hlen' : ∀ i, i < len → ∃ x, ok x ∧ (en x).length = k := by
      intro i hil
      have hi' := hi i hil
      rw [List.getElem?_eq_getElem (by omega)] at hi'
      obtain ⟨cs', hc, ht'⟩ := Option.bind_eq_some_iff.1 hi'
      obtain ⟨_, hcl, hat⟩ := World.cells?_some hc
      obtain ⟨x, hx, hox⟩ := hel n' hn cs' _ ht' (wok_all hw.2.1 _ (List.mem_map.2 ⟨_, List.getElem_mem _, rfl⟩))
      exact ⟨x, hox, by rw [← hx]; exact hcl⟩
    have hlm : len ≤ 9223372036854775807 := by unfold maxLen at hm; omega
    rcases Nat.eq_zero_or_pos len with h0 | h0
    · subst h0
      exact ⟨_, [], hcs, ⟨some a, cap, rfl, .inl rfl, by simp, by simp, by unfold maxLen at hm; omega⟩, by simp, by simp⟩
    · obtain ⟨x0, hox0, _⟩ := key 0 h0
      have key' : ∀ i, ∃ x, i < len → (ok x ∧ ∀ j u, (en x)[j]? = some u → W.cell? ((a.add (i * k)).add j) = some u) := by
        intro i
        by_cases h : i < len
        · obtain ⟨x, hx⟩ := key i h
          exact ⟨x, fun _ => hx⟩
        · exact ⟨x0, fun h' => absurd h' h⟩
      let f : Nat → α := fun i => Classical.choose (key' i)
      have hf : ∀ i, i < len → (ok (f i) ∧ ∀ j u, (en (f i))[j]? = some u → W.cell? ((a.add (i * k)).add j) = some u) := fun i => Classical.choose_spec (key' i)
      obtain ⟨b, off, spot⟩ := a
      have hsp : spot = none := by
        have hi' := hi 0 h0
        rw [List.getElem?_eq_getElem (by omega)] at hi'
        obtain ⟨cs', hc, ht'⟩ := Option.bind_eq_some_iff.1 hi'
        obtain ⟨_, hcl, hat⟩ := World.cells?_some hc
        have h1 := hat 0 hk0
        rw [List.getElem?_eq_getElem (by omega)] at h1
        simpa [Addr.add] using World.cell?_spot h1
      subst hsp
      refine ⟨_, (List.range len).map f, hcs, ⟨some ⟨b, off, none⟩, cap, by simp, .inr ⟨b, off, rfl, fun i x hix j u hj => ?_⟩, by simpa using hlm, by simpa using hl, by unfold maxLen at hm; omega⟩, ?_, by simpa using hlr⟩
      · rw [List.getElem?_map] at hix
        obtain ⟨i', hi', rfl⟩ := Option.map_eq_some_iff.1 hix
        have hlt : i < len := by have := (List.getElem?_eq_some_iff.1 hi').1; simpa using this
        rw [List.getElem?_range hlt] at hi'
        obtain rfl : i = i' := by simpa using hi'
        have := (hf i hlt).2 j u hj
        have e : ((⟨b, off, none⟩ : Addr).add (i * k)).add j = ⟨b, off + i * k + j, none⟩ := by
          rw [Go.Deep.add_add]
          unfold Addr.add
          split
          · rename_i h; simp at h; simp
          · simp [Nat.add_assoc]
        rwa [e] at this
      · intro x hx
        obtain ⟨i, hi', rfl⟩ := List.mem_map.1 hx
        exact (hf i (by simpa using hi')).1
theorem c64 : Tryd.prog.cellsOf 64 = 3 := by kernel_rfl
theorem c62 : Tryd.prog.cellsOf 62 = 1 := by kernel_rfl
theorem by58 : 1 ≤ Tryd.prog.bytesOf 58 := of_decide_eq_true (by kernel_rfl)
theorem by64 : 1 ≤ Tryd.prog.bytesOf 64 := of_decide_eq_true (by kernel_rfl)
theorem by86 : 1 ≤ Tryd.prog.bytesOf 86 := of_decide_eq_true (by kernel_rfl)
theorem reach_le : reachBytes ≤ 140737488355328 := by have := reachBytes_lt; have e : (2 : Nat) ^ 47 = 140737488355328 := rfl; omega
/-- A trie as its datum says. -/
theorem wz_trie : ∀ (n : Nat) {cs : List Value} {y : DataW H × List MemPlace}, Trd enc W n 64 cs y → WOk 64 y.1 → ∃ x : TR, cs = encK x ∧ TrOk W x ∧ Wide x.tr := by
  intro n
  induction n using Nat.strongRecOn with
  | ind n ih =>
    intro cs y h hw
    obtain ⟨xs, m, hn, hy, hl, hxl, hf⟩ := DataW.trod_struct Tryd.underlying64 h
    rw [c64] at hl
    obtain ⟨a, b, c, rfl⟩ := len3 hl
    subst hy
    unfold WOk at hw
    simp only [DataW.weights, Tryd.underlying64] at hw
    obtain ⟨x0, x1, x2, rfl⟩ : ∃ x0 x1 x2, xs = [x0, x1, x2] := by
      match xs, (show xs.length = 3 from hxl) with
      | [x0, x1, x2], _ => exact ⟨x0, x1, x2, rfl⟩
    have w0 : WOk 25 x0.1 := wok_each hw 0 25 x0.1 rfl rfl
    have w1 : WOk 62 x1.1 := wok_each hw 1 62 x1.1 rfl rfl
    have w2 : WOk 26 x2.1 := wok_each hw 2 26 x2.1 rfl rfl
    have h0 : Trd enc W m 25 (([a, b, c].drop 0).take (Tryd.prog.cellsOf 25)) x0 := hf 0 _ rfl
    have h1 : Trd enc W m 62 (([a, b, c].drop 1).take (Tryd.prog.cellsOf 62)) x1 := hf 1 _ rfl
    have h2 : Trd enc W m 26 (([a, b, c].drop 2).take (Tryd.prog.cellsOf 26)) x2 := hf 2 _ rfl
    rw [c25] at h0
    rw [c62] at h1
    rw [c26] at h2
    obtain ⟨v0, l0, e0, r0, -, z0⟩ := wz_slice (α := Vl) encVl (fun _ => True) Tryd.underlying25 c58 (by decide) by58 h0 w0 (fun _ _ cs z hz _ => by
      obtain ⟨x, e⟩ := rd_val ⟨_, hz⟩
      exact ⟨x, e, trivial⟩)
    obtain ⟨v1, l1, e1, r1, o1, z1⟩ := wz_slice (α := TR) encK (fun x => TrOk W x ∧ Wide x.tr) Tryd.underlying62 c64 (by decide) by64 h1 w1 (fun n' hn' cs z hz hwz => ih n' (by omega) hz hwz)
    obtain ⟨v2, l2, e2, r2, -, z2⟩ := wz_slice (α := Sp) encSp (fun _ => True) Tryd.underlying26 c86 (by decide) by86 h2 w2 (fun _ _ cs z hz _ => by
      obtain ⟨x, e⟩ := rd_span ⟨_, hz⟩
      exact ⟨x, e, trivial⟩)
    simp at e0 e1 e2
    subst e0 e1 e2
    obtain ⟨p0, q0, f0, -⟩ := id r0
    obtain ⟨p1, q1, f1, -⟩ := id r1
    obtain ⟨p2, q2, f2, -⟩ := id r2
    subst f0 f1 f2
    have hr := reach_le
    refine ⟨.mk p0 q0 l0 p1 q1 l1 p2 q2 l2, rfl, .mk _ r0 r1 (IsSpans.of_rows r2) (fun k hk => (o1 k hk).1), .mk _ ?_ ?_ ?_⟩
    · rw [TR.tr_vs]; exact Nat.le_trans z0 hr
    · rw [TR.tr_s]; exact Nat.le_trans z2 hr
    · intro k hk
      rw [TR.tr_ks] at hk
      obtain ⟨x, hx, rfl⟩ := List.mem_map.1 hk
      exact (o1 x hx).2
set_option maxRecDepth 100000 in
/-- A raw trie that is handed in. -/
theorem trie_of_read {base : Nat} {v : Value} {d : DataW H} {p : List MemPlace} (hv : Value.okWide Tryd.prog W .any base 64 v) (h : DataW.Trod enc Tryd.prog W 0 (fun _ => true) true 64 v d p) (hw : WOk 64 d) : ∃ x : TR, v = trV x ∧ TrOk W x ∧ Wide x.tr := by
  obtain ⟨cs, rfl, _⟩ := okWide_struct Tryd.underlying64 hv
  obtain ⟨fuel, hf⟩ := h
  obtain ⟨x, e, h1, h2⟩ := wz_trie fuel hf hw
  refine ⟨x, ?_, h1, h2⟩
  have : cs.toList = encK x := e
  unfold trV
  congr 1
  exact Array.toList_inj.1 this
set_option maxRecDepth 100000 in
theorem val_of_read {base : Nat} {v : Value} {d : DataW H} {p : List MemPlace} (hv : Value.okWide Tryd.prog W .any base 58 v) (h : DataW.Trod enc Tryd.prog W 0 (fun _ => true) true 58 v d p) : ∃ x : Vl, v = valV x := by
  obtain ⟨cs, rfl, _⟩ := okWide_struct Tryd.underlying58 hv
  obtain ⟨fuel, hf⟩ := h
  obtain ⟨x, e⟩ := rd_val ⟨_, hf⟩
  refine ⟨x, ?_⟩
  have : cs.toList = encVl x := e
  unfold valV
  congr 1
  exact Array.toList_inj.1 this
end
end Go.Proofs.YtdibijhaiaiifaaDoor
