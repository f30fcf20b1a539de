/- Parts Open, Qa, Qb, Qc, Qd, Qe, Qf, Qg, Qh, Tw, Mk: words, walks and laws that the claims of this seat share. -/
import Derived.Test.YtdibijhaiaiifaaDoorJ4
import Derived.Test.YtdibijhaiaiifaaDoorJ5
import Derived.Test.YtdibijhaiaiifaaDoorCards
import Derived.Test.YtdibijhaiaiifaaDoorTie
import Derived.ProofKit
import Derived.OpenShut
import Derived.ShutString
import Derived.ChangeOld
import Derived.Below
import Derived.ChangeSame
import Derived.Deep.Slices
import Derived.Deep.Fields
import Derived.Deep.DeepHandedRow
import Derived.Lib.LaidTab
/- How the rows' arguments read: numbers, values, tuples, spans, relations, terms; the tables as the rows list them. -/
namespace Go.Proofs.YtdibijhaiaiifaaDoor
open Go.ChangeShapes Go.WideShapes Go.ChangeAt Go.RowKit Go.Deep
theorem own : ownKnob Tryd.prog.godebug = none := by kernel_rfl
theorem laidOut : laidOutB Tryd.prog = true := by kernel_rfl
section
variable {H : Type} {enc : TypeId × Value → H} {W : World}
/-- Whatever reads as type t: its cells. -/
abbrev Rd (enc : TypeId × Value → H) (W : World) (n : Nat) (t : TypeId) (cs : List Value) : Prop := ∃ y, DataW.trod enc Tryd.prog W 0 (fun _ => true) true n t cs = some y
theorem rd_int {n : Nat} {t : TypeId} {cs : List Value} (ht : Tryd.prog.underlying t = some (.int .i64)) (h : Rd enc W n t cs) : ∃ z, cs = [.int .i64 z] := by
  obtain ⟨y, h⟩ := h
  obtain ⟨z, e, _⟩ := DataW.trod_int ht h
  exact ⟨z, e⟩
theorem rd_field {n : Nat} {t : TypeId} {cs : List Value} {fs : Array Field} (ht : Tryd.prog.underlying t = some (.struct fs)) (h : Rd enc W n t cs) :
    cs.length = Tryd.prog.cellsOf t ∧ ∃ m, ∀ (i : Nat) (f : Field), fs[i]? = some f → Rd enc W m f.type ((cs.drop f.offset).take (Tryd.prog.cellsOf f.type)) := by
  obtain ⟨y, h⟩ := h
  obtain ⟨xs, m, _, _, hl, hxl, hf⟩ := DataW.trod_struct ht h
  refine ⟨hl, m, fun i f hi => ?_⟩
  have := hf i f hi
  have hlt : i < xs.length := by rw [hxl]; exact (Array.getElem?_eq_some_iff.1 hi).1
  exact ⟨xs[i], by rw [this]; exact List.getElem?_eq_getElem hlt⟩
/-- A slice whose elements read. -/
theorem rd_slice {α : Type} {n : Nat} {t e k : Nat} {cs : List Value} (en : α → List Value) (ok : α → Prop) (ht : Tryd.prog.underlying t = some (.slice e)) (hk : Tryd.prog.cellsOf e = k) (hk0 : 0 < k)
    (hel : ∀ m cs, Rd enc W m e cs → ∃ x, cs = en x ∧ ok x) (h : Rd enc W n t cs) : ∃ v l, cs = [v] ∧ IsRows k en W v l ∧ ∀ x ∈ l, ok x := by
  obtain ⟨y, h⟩ := h
  rcases open_slice ht h with ⟨hcs, _⟩ | ⟨a, len, cap, m, n', D, Pl, hcs, _, hl, hm, hmm, _, hi⟩
  · exact ⟨_, [], hcs, ⟨none, 0, rfl, .inl rfl, by simp, by simp, by simp⟩, by simp⟩
  · simp only [if_true] at hmm
    subst hmm
    rw [hk] at hi
    have key : ∀ i, i < len → ∃ x, ok x ∧ ∀ j u, (en x)[j]? = some u → W.cell? ((a.add (i * k)).add j) = some u := by
      intro i hil
      obtain ⟨cs', hc, ht'⟩ := hi i (by omega)
      obtain ⟨_, hcl, hat⟩ := World.cells?_some hc
      obtain ⟨x, hx, hox⟩ := hel _ _ ⟨_, ht'⟩
      refine ⟨x, hox, fun j u hj => ?_⟩
      rw [← hx] at hj
      have hjl : j < k := by have := (List.getElem?_eq_some_iff.1 hj).1; omega
      rw [hat j hjl, hj]
    have hlen : ∀ i, i < len → ∃ x, ok x ∧ (en x).length = k := by
      intro i hil
      obtain ⟨cs', hc, ht'⟩ := hi i (by omega)
      obtain ⟨_, hcl, hat⟩ := World.cells?_some hc
      obtain ⟨x, hx, hox⟩ := hel _ _ ⟨_, ht'⟩
      exact ⟨x, hox, by rw [← hx]; exact hcl⟩
    have hlm : len ≤ 9223372036854775807 := by unfold maxLen at hm; omega
    rcases Nat.eq_zero_or_pos len with h0 | h0
    · subst h0
      exact ⟨_, [], hcs, ⟨some a, m, rfl, .inl rfl, by simp, by simp, by unfold maxLen at hm; omega⟩, by simp⟩
    · obtain ⟨x0, hox0, _⟩ := key 0 h0
      have key' : ∀ i, ∃ x, i < len → (ok x ∧ ∀ j u, (en x)[j]? = some u → W.cell? ((a.add (i * k)).add j) = some u) := by
        intro i
        by_cases h : i < len
        · obtain ⟨x, hx⟩ := key i h
          exact ⟨x, fun _ => hx⟩
        · exact ⟨x0, fun h' => absurd h' h⟩
      let f : Nat → α := fun i => Classical.choose (key' i)
      have hf : ∀ i, i < len → (ok (f i) ∧ ∀ j u, (en (f i))[j]? = some u → W.cell? ((a.add (i * k)).add j) = some u) := fun i => Classical.choose_spec (key' i)
      obtain ⟨b, off, spot⟩ := a
      have hsp : spot = none := by
        obtain ⟨cs', hc, ht'⟩ := hi 0 (by omega)
        obtain ⟨_, hcl, hat⟩ := World.cells?_some hc
        have h1 := hat 0 hk0
        rw [List.getElem?_eq_getElem (by omega)] at h1
        simpa [Addr.add] using World.cell?_spot h1
      subst hsp
      refine ⟨_, (List.range len).map f, hcs, ⟨some ⟨b, off, none⟩, m, by simp, .inr ⟨b, off, rfl, fun i x hix j u hj => ?_⟩, by simpa using hlm, by simpa using hl, by unfold maxLen at hm; omega⟩, ?_⟩
      · rw [List.getElem?_map] at hix
        obtain ⟨i', hi', rfl⟩ := Option.map_eq_some_iff.1 hix
        have hlt : i < len := by have := (List.getElem?_eq_some_iff.1 hi').1; simpa using this
        rw [List.getElem?_range hlt] at hi'
        obtain rfl : i = i' := by simpa using hi'
        have := (hf i hlt).2 j u hj
        have e : ((⟨b, off, none⟩ : Addr).add (i * k)).add j = ⟨b, off + i * k + j, none⟩ := by
          rw [Go.Deep.add_add]
          unfold Addr.add
          split
          · rename_i h; simp at h; simp
          · simp [Nat.add_assoc]
        rwa [e] at this
      · intro x hx
        obtain ⟨i, hi', rfl⟩ := List.mem_map.1 hx
        exact (hf i (by simpa using hi')).1
theorem rd_str {n : Nat} {cs : List Value} (h : Rd enc W n 9 cs) : ∃ s : List UInt8, cs = [strV s] ∧ s.length ≤ 9223372036854775807 := by
  obtain ⟨y, h⟩ := h
  obtain ⟨z, e, _, hs⟩ := DataW.trod_string Tryd.underlying9 h
  refine ⟨z.data.toList, e.trans ?_, ?_⟩
  · cases z
    simp [strV]
  · have : z.data.size ≤ maxLen := hs
    unfold maxLen at this
    simpa using this
theorem c3 : Tryd.prog.cellsOf 3 = 1 := by kernel_rfl
theorem c9 : Tryd.prog.cellsOf 9 = 1 := by kernel_rfl
theorem c58 : Tryd.prog.cellsOf 58 = 3 := by kernel_rfl
theorem c86 : Tryd.prog.cellsOf 86 = 2 := by kernel_rfl
theorem c44 : Tryd.prog.cellsOf 44 = 2 := by kernel_rfl
theorem c60 : Tryd.prog.cellsOf 60 = 4 := by kernel_rfl
theorem c25 : Tryd.prog.cellsOf 25 = 1 := by kernel_rfl
theorem c26 : Tryd.prog.cellsOf 26 = 1 := by kernel_rfl
theorem len2 {cs : List Value} (h : cs.length = 2) : ∃ a b, cs = [a, b] := by
  match cs, h with
  | [a, b], _ => exact ⟨a, b, rfl⟩
theorem len3 {cs : List Value} (h : cs.length = 3) : ∃ a b c, cs = [a, b, c] := by
  match cs, h with
  | [a, b, c], _ => exact ⟨a, b, c, rfl⟩
theorem len4 {cs : List Value} (h : cs.length = 4) : ∃ a b c d, cs = [a, b, c, d] := by
  match cs, h with
  | [a, b, c, d], _ => exact ⟨a, b, c, d, rfl⟩
theorem rd_val {n : Nat} {cs : List Value} (h : Rd enc W n 58 cs) : ∃ x : Vl, cs = encVl x := by
  obtain ⟨hl, m, hff⟩ := rd_field Tryd.underlying58 h
  rw [c58] at hl
  obtain ⟨a, b, c, rfl⟩ := len3 hl
  have h0 : Rd enc W m 3 (([a, b, c].drop 0).take (Tryd.prog.cellsOf 3)) := hff 0 _ rfl
  have h1 : Rd enc W m 3 (([a, b, c].drop 1).take (Tryd.prog.cellsOf 3)) := hff 1 _ rfl
  have h2 : Rd enc W m 9 (([a, b, c].drop 2).take (Tryd.prog.cellsOf 9)) := hff 2 _ rfl
  rw [c3] at h0 h1
  rw [c9] at h2
  obtain ⟨z0, e0⟩ := rd_int Tryd.underlying3 h0
  obtain ⟨z1, e1⟩ := rd_int Tryd.underlying3 h1
  obtain ⟨z2, e2, o2⟩ := rd_str h2
  simp at e0 e1 e2
  exact ⟨⟨z0, z1, z2, o2⟩, by rw [e0, e1, e2]; rfl⟩
theorem rd_span {n : Nat} {cs : List Value} (h : Rd enc W n 86 cs) : ∃ x : Sp, cs = encSp x := by
  obtain ⟨hl, m, hff⟩ := rd_field Tryd.underlying86 h
  rw [c86] at hl
  obtain ⟨a, b, rfl⟩ := len2 hl
  have h0 : Rd enc W m 3 (([a, b].drop 0).take (Tryd.prog.cellsOf 3)) := hff 0 _ rfl
  have h1 : Rd enc W m 3 (([a, b].drop 1).take (Tryd.prog.cellsOf 3)) := hff 1 _ rfl
  rw [c3] at h0 h1
  obtain ⟨z0, e0⟩ := rd_int Tryd.underlying3 h0
  obtain ⟨z1, e1⟩ := rd_int Tryd.underlying3 h1
  simp at e0 e1
  exact ⟨(z0, z1), by rw [e0, e1]; rfl⟩
theorem rd_term {n : Nat} {cs : List Value} (h : Rd enc W n 60 cs) : ∃ x : Tm, cs = encTm x := by
  obtain ⟨hl, m, hff⟩ := rd_field Tryd.underlying60 h
  rw [c60] at hl
  obtain ⟨a, b, c, d, rfl⟩ := len4 hl
  have h0 : Rd enc W m 9 (([a, b, c, d].drop 0).take (Tryd.prog.cellsOf 9)) := hff 0 _ rfl
  have h1 : Rd enc W m 58 (([a, b, c, d].drop 1).take (Tryd.prog.cellsOf 58)) := hff 1 _ rfl
  rw [c9] at h0
  rw [c58] at h1
  obtain ⟨z0, e0, o0⟩ := rd_str h0
  obtain ⟨z1, e1⟩ := rd_val h1
  simp [encVl] at e0 e1
  exact ⟨⟨z0, z1, o0⟩, by rw [e0, e1.1, e1.2.1, e1.2.2]; rfl⟩
theorem rd_ints {n : Nat} {cs : List Value} (h : Rd enc W n 22 cs) : ∃ v l, cs = [v] ∧ IsInts W v l := by
  obtain ⟨v, l, e, hr, _⟩ := rd_slice (α := Int) encI (fun _ => True) Tryd.underlying22 c3 (by decide) (fun m cs h => by
    obtain ⟨x, e⟩ := rd_int Tryd.underlying3 h
    exact ⟨x, e, trivial⟩) h
  exact ⟨v, l, e, hr⟩
theorem rd_vals {n : Nat} {cs : List Value} (h : Rd enc W n 25 cs) : ∃ v l, cs = [v] ∧ IsVals W v l := by
  obtain ⟨v, l, e, hr, _⟩ := rd_slice (α := Vl) encVl (fun _ => True) Tryd.underlying25 c58 (by decide) (fun m cs h => by
    obtain ⟨x, e⟩ := rd_val h
    exact ⟨x, e, trivial⟩) h
  exact ⟨v, l, e, hr⟩
theorem rd_spans {n : Nat} {cs : List Value} (h : Rd enc W n 26 cs) : ∃ v l, cs = [v] ∧ IsSpans W v l := by
  obtain ⟨v, l, e, hr, _⟩ := rd_slice (α := Sp) encSp (fun _ => True) Tryd.underlying26 c86 (by decide) (fun m cs h => by
    obtain ⟨x, e⟩ := rd_span h
    exact ⟨x, e, trivial⟩) h
  exact ⟨v, l, e, IsSpans.of_rows hr⟩
theorem rd_terms {n : Nat} {cs : List Value} (h : Rd enc W n 39 cs) : ∃ v l, cs = [v] ∧ IsTerms W v l := by
  obtain ⟨v, l, e, hr, _⟩ := rd_slice (α := Tm) encTm (fun _ => True) Tryd.underlying39 c60 (by decide) (fun m cs h => by
    obtain ⟨x, e⟩ := rd_term h
    exact ⟨x, e, trivial⟩) h
  exact ⟨v, l, e, hr⟩
theorem rd_row {n : Nat} {cs : List Value} (h : Rd enc W n 44 cs) : ∃ x : RR, cs = encR x ∧ RowOk W x := by
  obtain ⟨hl, m, hff⟩ := rd_field Tryd.underlying44 h
  rw [c44] at hl
  obtain ⟨a, b, rfl⟩ := len2 hl
  have h0 : Rd enc W m 25 (([a, b].drop 0).take (Tryd.prog.cellsOf 25)) := hff 0 _ rfl
  have h1 : Rd enc W m 26 (([a, b].drop 1).take (Tryd.prog.cellsOf 26)) := hff 1 _ rfl
  rw [c25] at h0
  rw [c26] at h1
  obtain ⟨z0, l0, e0, k0⟩ := rd_vals h0
  obtain ⟨z1, l1, e1, k1⟩ := rd_spans h1
  simp at e0 e1
  obtain ⟨pa, ca, ea, ha⟩ := id k0
  obtain ⟨pw, cw, ew, hw⟩ := id k1
  refine ⟨⟨pa, ca, l0, pw, cw, l1⟩, by rw [e0, e1, ea, ew]; rfl, ?_, ?_⟩
  · rw [ea] at k0; exact k0
  · rw [ew] at k1; exact k1
theorem rd_rel {n : Nat} {cs : List Value} (h : Rd enc W n 24 cs) : ∃ v l, cs = [v] ∧ IsRel W v l := by
  obtain ⟨v, l, e, hr, hok⟩ := rd_slice (α := RR) encR (RowOk W) Tryd.underlying24 c44 (by decide) (fun m cs h => rd_row h) h
  exact ⟨v, l, e, hr, hok⟩
/-! ### the arguments -/
section
variable {base : Nat} {v : Value} {d : DataW H} {p : List MemPlace}
set_option maxRecDepth 100000 in
theorem ints_of_read (hv : Value.okWide Tryd.prog W .any base 22 v) (h : DataW.Trod enc Tryd.prog W 0 (fun _ => true) true 22 v d p) : ∃ l, IsInts W v l := by
  obtain ⟨a0, len0, cap0, rfl⟩ := okWide_slice Tryd.underlying22 hv
  obtain ⟨fuel, hf⟩ := h
  obtain ⟨u, l, e, hr⟩ := rd_ints ⟨_, hf⟩
  have : u = .slice a0 len0 cap0 := by simpa [Value.cells] using e.symm
  exact ⟨l, this ▸ hr⟩
set_option maxRecDepth 100000 in
theorem vals_of_read (hv : Value.okWide Tryd.prog W .any base 25 v) (h : DataW.Trod enc Tryd.prog W 0 (fun _ => true) true 25 v d p) : ∃ l, IsVals W v l := by
  obtain ⟨a0, len0, cap0, rfl⟩ := okWide_slice Tryd.underlying25 hv
  obtain ⟨fuel, hf⟩ := h
  obtain ⟨u, l, e, hr⟩ := rd_vals ⟨_, hf⟩
  have : u = .slice a0 len0 cap0 := by simpa [Value.cells] using e.symm
  exact ⟨l, this ▸ hr⟩
set_option maxRecDepth 100000 in
theorem spans_of_read (hv : Value.okWide Tryd.prog W .any base 26 v) (h : DataW.Trod enc Tryd.prog W 0 (fun _ => true) true 26 v d p) : ∃ l, IsSpans W v l := by
  obtain ⟨a0, len0, cap0, rfl⟩ := okWide_slice Tryd.underlying26 hv
  obtain ⟨fuel, hf⟩ := h
  obtain ⟨u, l, e, hr⟩ := rd_spans ⟨_, hf⟩
  have : u = .slice a0 len0 cap0 := by simpa [Value.cells] using e.symm
  exact ⟨l, this ▸ hr⟩
set_option maxRecDepth 100000 in
theorem terms_of_read (hv : Value.okWide Tryd.prog W .any base 39 v) (h : DataW.Trod enc Tryd.prog W 0 (fun _ => true) true 39 v d p) : ∃ l, IsTerms W v l := by
  obtain ⟨a0, len0, cap0, rfl⟩ := okWide_slice Tryd.underlying39 hv
  obtain ⟨fuel, hf⟩ := h
  obtain ⟨u, l, e, hr⟩ := rd_terms ⟨_, hf⟩
  have : u = .slice a0 len0 cap0 := by simpa [Value.cells] using e.symm
  exact ⟨l, this ▸ hr⟩
set_option maxRecDepth 100000 in
theorem rel_of_read (hv : Value.okWide Tryd.prog W .any base 24 v) (h : DataW.Trod enc Tryd.prog W 0 (fun _ => true) true 24 v d p) : ∃ l, IsRel W v l := by
  obtain ⟨a0, len0, cap0, rfl⟩ := okWide_slice Tryd.underlying24 hv
  obtain ⟨fuel, hf⟩ := h
  obtain ⟨u, l, e, hr⟩ := rd_rel ⟨_, hf⟩
  have : u = .slice a0 len0 cap0 := by simpa [Value.cells] using e.symm
  exact ⟨l, this ▸ hr⟩
end
end
/-! ### the tables -/
theorem gTab : Tryd.prog.globalNamed "math/bits.deBruijn64tab" = some 1 := by kernel_rfl
theorem gTabType : (Tryd.prog.globals[1]?).map (·.type) = some 152 := by kernel_rfl
theorem cells152 : Tryd.prog.cellsOf 152 = 64 := by kernel_rfl
theorem cells5 : Tryd.prog.cellsOf 5 = 1 := by kernel_rfl
theorem gWords : Tryd.prog.globalNamed "porism/value.words" = some 0 := by kernel_rfl
theorem gWordsType : (Tryd.prog.globals[0]?).map (·.type) = some 140 := by kernel_rfl
def tabInts : List Int := [0, 1, 56, 2, 57, 49, 28, 3, 61, 58, 42, 50, 38, 29, 17, 4, 62, 47, 59, 36, 45, 43, 51, 22, 53, 39, 33, 30, 24, 18, 12, 5, 63, 55, 48, 27, 60, 41, 37, 16, 46, 35, 44, 21, 52, 32, 23, 11, 54, 26, 40, 15, 34, 20, 31, 10, 25, 14, 19, 9, 13, 8, 7, 6]
def theLaid : List (String × DataW Unit) := [("math/bits.deBruijn64tab", Rows.laid_math_bits_deBruijn64tab), ("porism/value.words", Rows.laid_porism_value_words)]
theorem tab_at : ∀ j, j < 64 → tabInts.getD j 0 = ((Lib.deBruijn64tab.getD j 0 : Nat) : Int) := by decide +kernel
theorem tab_part {W : World} {rest : List (String × DataW Unit)} (h : laidMet Tryd.prog (("math/bits.deBruijn64tab", Rows.laid_math_bits_deBruijn64tab) :: rest) W) : ∀ j, j < 64 → W.cell? ⟨1, j, none⟩ = some (.int .u8 (Lib.deBruijn64tab.getD j 0)) := by
  have ht : Lib.TabIs Tryd.prog W "math/bits.deBruijn64tab" .u8 tabInts := Lib.tabIs_of_head (rest := rest) gTab gTabType Tryd.underlying152 Tryd.underlying5 cells5 cells152 h
  intro j hj
  have := ht.cell gTab j hj
  rw [tab_at j hj] at this
  exact this
theorem words_lits : Rows.laid_porism_value_words (H := Unit) = .agg (keyWords.map fun b => .lit (.string b)) := by
  have e : keyWords = [[108, 97, 116, 116, 105, 99, 101], [102, 117, 110, 99, 116, 105, 111, 110], [111, 110], [98, 97, 115, 101], [118, 105, 101, 119], [107, 101, 121], [100, 101, 110, 121], [110, 111, 116], [105, 110, 116], [115, 121, 109]] := by decide +kernel
  rw [e]; rfl
theorem keyWords_len : keyWords.length = 10 := by decide +kernel
theorem words_part {W : World} {rest : List (String × DataW Unit)} {ps} (h : DataW.LaidVars Tryd.prog W (("porism/value.words", Rows.laid_porism_value_words) :: rest) ps) : ∀ j, j < 10 → W.cell? ⟨0, j, none⟩ = some (strV (keyWords.getD j [])) := by
  obtain ⟨g', t', cs, fuel, p, q, hg', ht', hvar, hd, _, _⟩ := h
  obtain rfl := Option.some.inj (gWords.symm.trans hg')
  obtain rfl := Option.some.inj (gWordsType.symm.trans ht')
  obtain ⟨xs, m, _, hx, hl, hxl, hf⟩ := DataW.trod_array Tryd.underlying140 hd
  rw [words_lits] at hx
  simp only [Prod.mk.injEq, DataW.agg.injEq] at hx
  intro j hj
  have hk : j < keyWords.length := by rw [keyWords_len]; exact hj
  have hfj := hf j hj
  rw [c9] at hfj
  have hjx : j < xs.length := by omega
  rw [List.getElem?_eq_getElem hjx] at hfj
  obtain ⟨s, e, hs, _⟩ := DataW.trod_string Tryd.underlying9 hfj
  have hb : xs[j].1 = .lit (.string (keyWords.getD j [])) := by
    have h1 := congrArg (·[j]?) hx.1
    simp only [List.getElem?_map, List.getElem?_eq_getElem hjx, List.getElem?_eq_getElem hk, Option.map_some, Option.some.injEq] at h1
    rw [← h1]
    simp [hk]
  rw [hs] at hb
  simp at hb
  have e0 : cs.toList[j]? = some (.string s) := by
    have := congrArg (·[0]?) e
    simpa using this
  rw [World.var?_cell gWords hvar j]
  have e1 : cs[j]? = some (.string s) := by simpa using e0
  rw [e1]
  congr 2
  cases s
  simp at hb
  simp [← hb]
theorem tab_of_laid {W : World} (h : laidMetH Tryd.prog theLaid W) : Tab W := by
  have h' : laidMet Tryd.prog theLaid W := h
  refine ⟨tab_part h', ?_⟩
  obtain ⟨ps, h1, _⟩ := h'
  obtain ⟨g', t', cs, fuel, p, q, _, _, _, _, hr, _⟩ := h1
  exact words_part hr
noncomputable def tabCells : Array Value := (tabInts.map fun z => Value.int .u8 z).toArray
noncomputable def wordCells : Array Value := (keyWords.map strV).toArray
end Go.Proofs.YtdibijhaiaiifaaDoor
/- The reference's search of a tuple's moments. -/
namespace Go.Proofs.YtdibijhaiaiifaaDoor
open Go.RowKit
theorem cmp_flip (a b : Tp) : cmpT a b = 0 ↔ cmpT b a = 0 := by rw [cmpT_is.eq, cmpT_is.eq]; exact eq_comm
set_option maxHeartbeats 4000000 in
set_option maxRecDepth 1000000 in
theorem rWhen_any (va vt : Value) (xs : List RR) (t : Tp) (w : World) (ha : IsRel w va xs) (ht : IsVals w vt t) (sa : Sml 10000 xs) :
    Calls Tryd.prog 23 #[va, vt] w fun e w' => ∃ u, e = .returned u ∧ IsSpans w' u (canon fun k => mom (rows xs) t k) ∧ Below w.heap.size w w' := by
  have HS := Lib.hid sa.each
  have hl := sa.len
  clear sa
  obtain ⟨pa, pc, rfl, -⟩ := ha.shape
  obtain ⟨pt, ct, rfl, -⟩ := id ht
  go_enter Tryd.func23, Tryd.ntmps23
  go_wp2
  go_loopg [5, 6] xs.length (fun g v5 vi wr => ∃ (i : Nat) (W : List Sp), vi = .int .i64 i ∧ i ≤ xs.length ∧ xs.length - i ≤ g ∧ Hid (WhI xs t i W) ∧ Owns 2 86 encSp wr w.heap.size v5 W ∧ Below w.heap.size w wr)
  case atStart => exact ⟨0, [], rfl, Nat.zero_le _, Nat.le_refl _, Lib.hid (WhI.start _ _), Owns.nil _ _, Below.refl _ _⟩
  case round =>
    obtain ⟨i, W, rfl, hi, hg, V, H5, B⟩ := hrel
    obtain ⟨p5, c5, rfl⟩ := H5.form
    have hWl : W.length ≤ 1000000 := by have := V.out.len HS.out; omega
    by_cases hlt : i < xs.length
    · have hltz : (i : Int) < (xs.length : Int) := by omega
      obtain ⟨x, hx⟩ := getElem_of_lt hlt
      obtain ⟨b, off, e, c0, c1, rx⟩ := (ha.keep B).at_ hx
      cases e
      have VH := Lib.hid (V.out.hit hx)
      have VM := Lib.hid (V.out.miss hx)
      have hxl := (HS.out x (List.mem_of_getElem? hx)).2
      clear hx
      have htA := ht.keep B
      go_wp2_with fail
      refine (rCompareTuple_any _ _ t x.t _ htA rx.1).mono ?_
      rintro e w5 ⟨rfl, g5⟩
      obtain ⟨r, hr⟩ : ∃ r, cmpT t x.t = r := ⟨_, rfl⟩
      rw [cmp_flip, hr] at VH VM
      rw [hr]
      clear hr
      replace c1 := cell_keep g5.below c1
      have hs5 := (rx.keep g5.below).2.rows
      have H6 := H5.keep g5.below
      have B2 := B.trans (g5.below.mono B.size)
      clear c0 htA g5 rx
      by_cases hr0 : r = 0
      · have VN := Lib.hid (VH.out hr0)
        subst hr0
        go_wp2_with (at_builtin; refine wpList_cat fitsS encsS rfl _ _ rfl rfl rfl H6 (Below.refl _ _) hs5 B2.size hWl (by omega) ?_; intro p1 c1 w7 hO hB hG)
        go_roundg (xs.length - (i + 1))
        case measure => omega
        case rel => exact ⟨i + 1, _, by go_num, hlt, Nat.le_refl _, VN, by rw [List.length_append] at hO; exact hO, B2.trans hB⟩
      · have VN := Lib.hid (VM.out hr0)
        have hrb : (r == 0) = false := by rw [beq_eq_false_iff_ne]; exact hr0
        go_wp2
        go_roundg (xs.length - (i + 1))
        case measure => omega
        case rel => exact ⟨i + 1, W, by go_num, hlt, Nat.le_refl _, VN, H6, B2⟩
    · have hltz : ¬ (i : Int) < (xs.length : Int) := by omega
      have RES := Lib.hid (show canon (setOf W) = canon fun k => mom (rows xs) t k from canon_ext fun k _ => by rw [V.out.set k, List.take_of_length_le (by omega)])
      have h6 := IsSpans.of_rows (H5.is encsS (by omega))
      go_wp2_with fail
      refine (rOf_any _ W _ h6).mono ?_
      rintro e w5 ⟨u5, rfl, h5, B5⟩
      rw [RES.out] at h5
      go_wp2
      go_ret
      exact ⟨u5, rfl, h5, B.trans (B5.mono B.size)⟩
end Go.Proofs.YtdibijhaiaiifaaDoor
/- The reference's Put. -/
namespace Go.Proofs.YtdibijhaiaiifaaDoor
open Go.RowKit
theorem Hold.off1 {w w' : World} {r : RR} {v : Value} {out : List RR} {wr : World} {base : Nat} (H : Hold 2 44 encR RowOk noB wr base v out) (hr : RowOk w r) (hb : Below w.heap.size w w') (hw : base = w.heap.size) : ∀ u ∈ [r], Off RowOk w' (Ex v noB) u := fun u hu => by
  rw [List.mem_singleton.1 hu]
  refine Off.old (w := w) (fun a b => rowOk_keep a b _) hr hb fun k hk => ?_
  rcases hk with hk | hk
  · rw [← hw]; exact (H.1.lt k hk).1
  · exact hk.elim
theorem Hold.off2 {w' : World} {r : RR} {v : Value} {out : List RR} {wr : World} {base : Nat} (H : Hold 2 44 encR RowOk noB wr base v out) (hr : RowOk w' r) (ha : Fresh wr.heap.size r.av) (hw : Fresh wr.heap.size r.wv) : ∀ u ∈ [r], Off RowOk w' (Ex v noB) u := fun u hu => by
  rw [List.mem_singleton.1 hu]
  refine row_fresh (base := wr.heap.size) hr ha hw fun k hk => ?_
  rcases hk with hk | hk
  · exact (H.1.lt k hk).2
  · exact hk.elim
set_option maxHeartbeats 4000000 in
set_option maxRecDepth 1000000 in
theorem Put_any (va vt vs : Value) (xs : List RR) (t : Tp) (s : List Sp) (w : World) (ha : IsRel w va xs) (ht : IsVals w vt t) (hs : IsSpans w vs s) (hc : IsCan (rows xs)) (ho : s = [] ∨ OkW s) (sa : Sml 10000 xs) (htl : t.length ≤ 64) (hsl : s.length ≤ 64) :
    Calls Tryd.prog 80 #[va, vt, vs] w fun e w' => ∃ u, e = .returned u ∧ ∃ zs, IsRel w' u zs ∧ PutOf xs t s zs ∧ Below w.heap.size w w' := by
  have HC := Lib.hid hc
  have HO := Lib.hid ho
  clear hc ho
  have hl := sa.len
  clear sa
  obtain ⟨pa, pc, rfl, -⟩ := ha.shape
  obtain ⟨pt, ct, rfl, -⟩ := id ht
  obtain ⟨ps, cs, rfl, -⟩ := id hs
  have hlb : xs.length ≤ 9223372036854775807 := by omega
  go_enter Tryd.func80, Tryd.ntmps80
  go_wp2
  go_loopg [7, 8, 9] (xs.length + 1) (fun g v7 v8 vi wr => ∃ (i : Nat) (out : List RR) (d : Bool), vi = .int .i64 i ∧ v8 = .bool d ∧ i ≤ xs.length + 1 ∧ xs.length + 1 - i ≤ g ∧ Hid (PutI xs t s (min i xs.length) d out) ∧ Hid (i = xs.length + 1 → d = true) ∧ Hold 2 44 encR RowOk noB wr w.heap.size v7 out ∧ Below w.heap.size w wr)
  case atStart => exact ⟨0, [], false, rfl, rfl, Nat.zero_le _, Nat.le_refl _, Lib.hid (by rw [Nat.zero_min]; exact PutI.start _ _ _), Lib.hid (fun h => by omega), Hold.nil _ _, Below.refl _ _⟩
  case round =>
    obtain ⟨i, out, d, rfl, rfl, hi, hg, V, VD, H7, B⟩ := hrel
    obtain ⟨p7, c7, rfl⟩ := H7.form
    have hol : out.length ≤ 20000 := by have h1 := V.out.len; have : (if d = true then 1 else 0) ≤ 1 := by cases d <;> decide
                                        omega
    have haR := ha.keep B
    have htR := ht.keep B
    have hsR := hs.keep B
    by_cases hlt : i ≤ xs.length
    · have hltz : (i : Int) ≤ (xs.length : Int) := by omega
      by_cases hin : i < xs.length
      · have hinz : (i : Int) < (xs.length : Int) := by omega
        have hinq : ((i : Int) == (xs.length : Int)) = false := by rw [beq_eq_false_iff_ne]; omega
        rw [show min i xs.length = i by omega] at V
        have HM : Hid (min (i + 1) xs.length = i + 1) := Lib.hid (by omega)
        have HD : Hid (i + 1 = xs.length + 1 → False) := Lib.hid (by omega)
        obtain ⟨x, hx⟩ := getElem_of_lt hin
        obtain ⟨b, off, e, c0, c1, rx⟩ := haR.at_ hx
        cases e
        have rw0 : RowOk w x := ha.2 x (List.mem_of_getElem? hx)
        have HX := Lib.hid hx
        clear hx
        obtain ⟨r, hr⟩ : ∃ r, cmpT t x.t = r := ⟨_, rfl⟩
        have HR := Lib.hid hr
        clear hr
        cases d with
        | true =>
          go_wp2_with fail
          refine (rCompareTuple_any _ _ t x.t _ htR rx.1).mono ?_
          rintro e w1 ⟨rfl, g1⟩
          rw [HR.out]
          replace rx := rx.keep g1.below
          replace H7 := H7.keep g1.below
          replace c0 := cell_keep g1.below c0
          replace c1 := cell_keep g1.below c1
          replace B := B.trans (g1.below.mono B.size)
          clear g1
          by_cases hr0 : r = 0
          · subst hr0
            have V2 := Lib.hid (V.out.skip HX.out ((cmpT_is.eq _ _).1 HR.out).symm)
            clear V VD
            go_wp2
            go_roundg (xs.length + 1 - (i + 1))
            case measure => omega
            case rel => exact ⟨i + 1, out, true, by go_num, rfl, by omega, Nat.le_refl _, by rw [HM.out]; exact V2, Lib.hid (fun h => absurd h HD.out), H7, B⟩
          · have hrn : (r != 0) = true := by rw [bne_iff_ne]; exact hr0
            have V2 := Lib.hid (V.out.row HC.out HX.out (fun e => hr0 (by rw [← HR.out, e]; exact (cmpT_is.eq _ _).2 rfl)) (fun e => by cases e))
            clear V VD
            have bX := below_new w1 (.cells #[x.av, x.wv] 44)
            have hm : IsRows 2 encR (w1.alloc (.cells #[x.av, x.wv] 44)) (.slice (some ⟨w1.heap.size, 0, none⟩) 1 1) [x] := IsRows.lit w1 [x] encsR (by simp)
            have hmo := Hold.off1 H7 rw0 (B.trans (bX.mono B.size)) rfl
            go_wp2_with (at_builtin; refine wpList_hold fitsR24 encsR rfl _ _ rfl rfl rfl H7 bX hm hmo B.size (by omega) (by simp) ?_; intro p9 c9 w9 H9 B9 hG9; rw [List.length_append] at H9)
            go_roundg (xs.length + 1 - (i + 1))
            case measure => omega
            case rel => exact ⟨i + 1, _, true, by go_num, rfl, by omega, Nat.le_refl _, by rw [HM.out]; exact V2, Lib.hid (fun h => absurd h HD.out), H9, B.trans B9⟩
        | false =>
          go_wp2_with fail
          refine (rCompareTuple_any _ _ t x.t _ htR rx.1).mono ?_
          rintro e w1 ⟨rfl, g1⟩
          rw [HR.out]
          replace rx := rx.keep g1.below
          replace H7 := H7.keep g1.below
          replace haR := haR.keep g1.below
          replace htR := htR.keep g1.below
          replace hsR := hsR.keep g1.below
          replace c0 := cell_keep g1.below c0
          replace c1 := cell_keep g1.below c1
          replace B := B.trans (g1.below.mono B.size)
          clear g1
          by_cases hr1 : r ≤ 0
          · have hge := Lib.hid (drop_ge HC.out HX.out (by rw [HR.out]; exact hr1))
            by_cases hs0 : s.length = 0
            · have hsz : ¬ (0 : Int) < (s.length : Int) := by omega
              have V2 := Lib.hid (V.out.none (List.eq_nil_of_length_eq_zero hs0))
              clear V VD hs0
              go_wp2_with fail
              refine (rCompareTuple_any _ _ t x.t _ htR rx.1).mono ?_
              rintro e w2 ⟨rfl, g2⟩
              rw [HR.out]
              replace H7 := H7.keep g2.below
              replace c0 := cell_keep g2.below c0
              replace c1 := cell_keep g2.below c1
              replace B := B.trans (g2.below.mono B.size)
              clear g2
              by_cases hr0 : r = 0
              · subst hr0
                have V3 := Lib.hid (V2.out.skip HX.out ((cmpT_is.eq _ _).1 HR.out).symm)
                clear V2
                go_wp2
                go_roundg (xs.length + 1 - (i + 1))
                case measure => omega
                case rel => exact ⟨i + 1, _, true, by go_num, rfl, by omega, Nat.le_refl _, by rw [HM.out]; exact V3, Lib.hid (fun h => absurd h HD.out), H7, B⟩
              · have hrn : (r != 0) = true := by rw [bne_iff_ne]; exact hr0
                have V3 := Lib.hid (V2.out.row HC.out HX.out (fun e => hr0 (by rw [← HR.out, e]; exact (cmpT_is.eq _ _).2 rfl)) (fun e => by cases e))
                clear V2
                have bX := below_new w2 (.cells #[x.av, x.wv] 44)
                have hm : IsRows 2 encR (w2.alloc (.cells #[x.av, x.wv] 44)) (.slice (some ⟨w2.heap.size, 0, none⟩) 1 1) [x] := IsRows.lit w2 [x] encsR (by simp)
                have hmo := Hold.off1 H7 rw0 (B.trans (bX.mono B.size)) rfl
                go_wp2_with (at_builtin; refine wpList_hold fitsR24 encsR rfl _ _ rfl rfl rfl H7 bX hm hmo B.size (by omega) (by simp) ?_; intro p9 c9 w9 H9 B9 hG9; rw [List.length_append] at H9)
                go_roundg (xs.length + 1 - (i + 1))
                case measure => omega
                case rel => exact ⟨i + 1, _, true, by go_num, rfl, by omega, Nat.le_refl _, by rw [HM.out]; exact V3, Lib.hid (fun h => absurd h HD.out), H9, B.trans B9⟩
            · have hsz : (0 : Int) < (s.length : Int) := by omega
              have HS := Lib.hid (HO.out.resolve_left fun e => hs0 (by rw [e]; rfl))
              clear VD
              have hL1 : Owns 3 58 encVl (w1.alloc (.cells #[] 58)) w1.heap.size (.slice (some ⟨w1.heap.size, 0, none⟩) 0 0) [] := Owns.lit w1
              have bL1 := below_new w1 (.cells #[] 58)
              have htL : IsRows 3 encVl (w1.alloc (.cells #[] 58)) (.slice pt t.length ct) t := htR.keep bL1
              go_wp2_with (at_builtin; first
                | (refine wpList_cat fitsV encsV rfl _ _ rfl rfl rfl hL1 (Below.refl _ _) htL bL1.size (by simp) (by omega) ?_; intro pA cA wA hO1 hB1 hG1; simp only [List.nil_append] at hO1; have b1 := bL1.trans hB1; have hL2 : Owns 2 86 encSp (wA.alloc (.cells #[] 86)) wA.heap.size (.slice (some ⟨wA.heap.size, 0, none⟩) 0 0) [] := Owns.lit wA; have bL2 := below_new wA (.cells #[] 86); have hsL : IsRows 2 encSp (wA.alloc (.cells #[] 86)) (.slice ps s.length cs) s := ((hsR.keep b1).keep bL2).rows)
                | (refine wpList_cat fitsS encsS rfl _ _ rfl rfl rfl hL2 (Below.refl _ _) hsL bL2.size (by simp) (by omega) ?_; intro pB cB wB hO2 hB2 hG2; simp only [List.nil_append] at hO2; have b2 := bL2.trans hB2; have b12 := b1.trans (b2.mono b1.size); have bX := below_new wB (.cells #[.slice pA t.length cA, .slice pB s.length cB] 44); have hm : IsRows 2 encR (wB.alloc (.cells #[.slice pA t.length cA, .slice pB s.length cB] 44)) (.slice (some ⟨wB.heap.size, 0, none⟩) 1 1) [(⟨pA, cA, t, pB, cB, s⟩ : RR)] := IsRows.lit wB [_] encsR (by simp); have hro : RowOk wB ⟨pA, cA, t, pB, cB, s⟩ := ⟨(hO1.keep b2).is encsV (by omega), IsSpans.of_rows (hO2.is encsS (by omega))⟩; have hmo := Hold.off2 (w' := wB.alloc (.cells #[.slice pA t.length cA, .slice pB s.length cB] 44)) H7 (r := ⟨pA, cA, t, pB, cB, s⟩) (hro.keep bX) hO1.fresh (Fresh.mono hO2.fresh b1.size); have b13 := b12.trans (bX.mono b12.size))
                | (refine wpList_hold fitsR24 encsR rfl _ _ rfl rfl rfl H7 b13 hm hmo B.size (by omega) (by simp) ?_; intro pC cC wC H8 B8 hG8; rw [List.length_append] at H8; have BC := B.trans B8; obtain ⟨b2, o2, e, c0, c1, rx⟩ := (ha.keep BC).at_ HX.out; cases e; replace htR := ht.keep BC))
              have V2 := Lib.hid (V.out.new (r := ⟨pA, cA, t, pB, cB, s⟩) HS.out hge.out rfl rfl)
              obtain ⟨o2, ho2⟩ : ∃ o2, out ++ [(⟨pA, cA, t, pB, cB, s⟩ : RR)] = o2 := ⟨_, rfl⟩
              have ho3 : o2.length ≤ 20001 := by rw [← ho2, List.length_append]; simp; omega
              rw [ho2] at H8 V2
              clear ho2
              go_wp2_with fail
              refine (rCompareTuple_any _ _ t x.t _ htR rx.1).mono ?_
              rintro e w2 ⟨rfl, g2⟩
              rw [HR.out]
              replace H8 := H8.keep g2.below
              replace c0 := cell_keep g2.below c0
              replace c1 := cell_keep g2.below c1
              replace BC := BC.trans (g2.below.mono BC.size)
              clear g2
              by_cases hr0 : r = 0
              · subst hr0
                have V3 := Lib.hid (V2.out.skip HX.out ((cmpT_is.eq _ _).1 HR.out).symm)
                clear V2
                go_wp2
                go_roundg (xs.length + 1 - (i + 1))
                case measure => omega
                case rel => exact ⟨i + 1, _, true, by go_num, rfl, by omega, Nat.le_refl _, by rw [HM.out]; exact V3, Lib.hid (fun h => absurd h HD.out), H8, BC⟩
              · have hrn : (r != 0) = true := by rw [bne_iff_ne]; exact hr0
                have V3 := Lib.hid (V2.out.row HC.out HX.out (fun e => hr0 (by rw [← HR.out, e]; exact (cmpT_is.eq _ _).2 rfl)) (fun e => by cases e))
                clear V2
                have bX := below_new w2 (.cells #[x.av, x.wv] 44)
                have hm : IsRows 2 encR (w2.alloc (.cells #[x.av, x.wv] 44)) (.slice (some ⟨w2.heap.size, 0, none⟩) 1 1) [x] := IsRows.lit w2 [x] encsR (by simp)
                have hmo := Hold.off1 H8 rw0 (BC.trans (bX.mono BC.size)) rfl
                go_wp2_with (at_builtin; refine wpList_hold fitsR24 encsR rfl _ _ rfl rfl rfl H8 bX hm hmo BC.size (by omega) (by simp) ?_; intro p9 c9 w9 H9 B9 hG9; rw [List.length_append] at H9)
                go_roundg (xs.length + 1 - (i + 1))
                case measure => omega
                case rel => exact ⟨i + 1, _, true, by go_num, rfl, by omega, Nat.le_refl _, by rw [HM.out]; exact V3, Lib.hid (fun h => absurd h HD.out), H9, BC.trans B9⟩
          · have hr2 : cmpT x.t t < 0 := by
              have h1 := cmpT_is.anti t x.t
              have h2 := HR.out
              omega
            have HLT := Lib.hid hr2
            have V2 := Lib.hid (V.out.row HC.out HX.out (fun e => by rw [e, cmpT_is.refl] at hr2; omega) fun _ => HLT.out)
            have hrn : (r != 0) = true := by rw [bne_iff_ne]; omega
            clear hr2 V VD
            go_wp2_with fail
            refine (rCompareTuple_any _ _ t x.t _ htR rx.1).mono ?_
            rintro e w2 ⟨rfl, g2⟩
            rw [HR.out]
            replace H7 := H7.keep g2.below
            replace c0 := cell_keep g2.below c0
            replace c1 := cell_keep g2.below c1
            replace B := B.trans (g2.below.mono B.size)
            clear g2
            have bX := below_new w2 (.cells #[x.av, x.wv] 44)
            have hm : IsRows 2 encR (w2.alloc (.cells #[x.av, x.wv] 44)) (.slice (some ⟨w2.heap.size, 0, none⟩) 1 1) [x] := IsRows.lit w2 [x] encsR (by simp)
            have hmo := Hold.off1 H7 rw0 (B.trans (bX.mono B.size)) rfl
            go_wp2_with (at_builtin; refine wpList_hold fitsR24 encsR rfl _ _ rfl rfl rfl H7 bX hm hmo B.size (by omega) (by simp) ?_; intro p9 c9 w9 H9 B9 hG9; rw [List.length_append] at H9)
            go_roundg (xs.length + 1 - (i + 1))
            case measure => omega
            case rel => exact ⟨i + 1, _, false, by go_num, rfl, by omega, Nat.le_refl _, by rw [HM.out]; exact V2, Lib.hid (fun h => absurd h HD.out), H9, B.trans B9⟩
      · have hin' : ¬ (i : Int) < (xs.length : Int) := by omega
        have hieq : i = xs.length := by omega
        rw [show min i xs.length = xs.length by omega] at V
        have HM : Hid (min (i + 1) xs.length = xs.length) := Lib.hid (by omega)
        have HI := Lib.hid hieq
        have hinq : ((i : Int) == (xs.length : Int)) = true := by rw [beq_iff_eq]; omega
        clear hieq
        cases d with
        | true =>
          go_wp2
          go_roundg (xs.length + 1 - (i + 1))
          case measure => omega
          case rel => exact ⟨i + 1, out, true, by go_num, rfl, by omega, Nat.le_refl _, by rw [HM.out]; exact V, Lib.hid (fun _ => rfl), H7, B⟩
        | false =>
          have hge : Hid (∀ z ∈ xs.drop xs.length, cmpT t z.t < 0 ∨ z.t = t) := Lib.hid (by rw [List.drop_length]; intro z hz; cases hz)
          by_cases hs0 : s.length = 0
          · have V2 := Lib.hid (V.out.none (List.eq_nil_of_length_eq_zero hs0))
            have hsz : ¬ (0 : Int) < (s.length : Int) := by omega
            clear V VD hs0
            go_wp2
            go_roundg (xs.length + 1 - (i + 1))
            case measure => omega
            case rel => exact ⟨i + 1, out, true, by go_num, rfl, by omega, Nat.le_refl _, by rw [HM.out]; exact V2, Lib.hid (fun _ => rfl), H7, B⟩
          · have hsz : (0 : Int) < (s.length : Int) := by omega
            have HS := Lib.hid (HO.out.resolve_left fun e => hs0 (by rw [e]; rfl))
            clear VD
            have hL1 : Owns 3 58 encVl (wr.alloc (.cells #[] 58)) wr.heap.size (.slice (some ⟨wr.heap.size, 0, none⟩) 0 0) [] := Owns.lit wr
            have bL1 := below_new wr (.cells #[] 58)
            have htL : IsRows 3 encVl (wr.alloc (.cells #[] 58)) (.slice pt t.length ct) t := htR.keep bL1
            go_wp2_with (at_builtin; first
              | (refine wpList_cat fitsV encsV rfl _ _ rfl rfl rfl hL1 (Below.refl _ _) htL bL1.size (by simp) (by omega) ?_; intro pA cA wA hO1 hB1 hG1; simp only [List.nil_append] at hO1; have b1 := bL1.trans hB1; have hL2 : Owns 2 86 encSp (wA.alloc (.cells #[] 86)) wA.heap.size (.slice (some ⟨wA.heap.size, 0, none⟩) 0 0) [] := Owns.lit wA; have bL2 := below_new wA (.cells #[] 86); have hsL : IsRows 2 encSp (wA.alloc (.cells #[] 86)) (.slice ps s.length cs) s := ((hsR.keep b1).keep bL2).rows)
              | (refine wpList_cat fitsS encsS rfl _ _ rfl rfl rfl hL2 (Below.refl _ _) hsL bL2.size (by simp) (by omega) ?_; intro pB cB wB hO2 hB2 hG2; simp only [List.nil_append] at hO2; have b2 := bL2.trans hB2; have b12 := b1.trans (b2.mono b1.size); have bX := below_new wB (.cells #[.slice pA t.length cA, .slice pB s.length cB] 44); have hm : IsRows 2 encR (wB.alloc (.cells #[.slice pA t.length cA, .slice pB s.length cB] 44)) (.slice (some ⟨wB.heap.size, 0, none⟩) 1 1) [(⟨pA, cA, t, pB, cB, s⟩ : RR)] := IsRows.lit wB [_] encsR (by simp); have hro : RowOk wB ⟨pA, cA, t, pB, cB, s⟩ := ⟨(hO1.keep b2).is encsV (by omega), IsSpans.of_rows (hO2.is encsS (by omega))⟩; have hmo := Hold.off2 (w' := wB.alloc (.cells #[.slice pA t.length cA, .slice pB s.length cB] 44)) H7 (r := ⟨pA, cA, t, pB, cB, s⟩) (hro.keep bX) hO1.fresh (Fresh.mono hO2.fresh b1.size); have b13 := b12.trans (bX.mono b12.size))
              | (refine wpList_hold fitsR24 encsR rfl _ _ rfl rfl rfl H7 b13 hm hmo B.size (by omega) (by simp) ?_; intro pC cC wC H8 B8 hG8; rw [List.length_append] at H8; have BC := B.trans B8))
            have V2 := Lib.hid (V.out.new (r := ⟨pA, cA, t, pB, cB, s⟩) HS.out hge.out rfl rfl)
            go_roundg (xs.length + 1 - (i + 1))
            case measure => omega
            case rel => exact ⟨i + 1, _, true, by go_num, rfl, by omega, Nat.le_refl _, by rw [HM.out]; exact V2, Lib.hid (fun _ => rfl), H8, BC⟩
    · have hltz : ¬ (i : Int) ≤ (xs.length : Int) := by omega
      have hd : d = true := VD.out (by omega)
      subst hd
      rw [show min i xs.length = xs.length by omega] at V
      have RT := H7.rel (by omega)
      go_wp2
      go_ret
      exact ⟨_, rfl, out, RT, V.out.whole rfl, B⟩
end Go.Proofs.YtdibijhaiaiifaaDoor
/- The reference's Of, Insert and Remove. -/
namespace Go.Proofs.YtdibijhaiaiifaaDoor
open Go.RowKit
theorem ok_or (S : Nat → Bool) : canon S = [] ∨ OkW (canon S) := by
  by_cases h : canon S = []
  · exact .inl h
  · exact .inr (okW_canon h)
theorem rWhen_ts {va vt : Value} {xs : List RR} {t : Tp} {w0 w : World} {Q : Ending → World → Prop} (ha : IsRel w0 va xs) (ht : IsVals w0 vt t) (sa : Sml 10000 xs) (hb : Below w0.heap.size w0 w)
    (k : ∀ u w', IsSpans w' u (canon fun k => mom (rows xs) t k) → Below w0.heap.size w0 w' → Q (.returned u) w') : Calls Tryd.prog 23 #[va, vt] w Q :=
  (rWhen_any va vt xs t w (ha.keep hb) (ht.keep hb) sa).mono fun e w' ⟨u, he, hu, hB⟩ => by subst he; exact k u w' hu (below_trans hb hB)
theorem Put_ts {va vt vs : Value} {xs : List RR} {t : Tp} {s : List Sp} {w0 w1 w : World} {Q : Ending → World → Prop} (ha : IsRel w0 va xs) (ht : IsVals w0 vt t) (hs : IsSpans w1 vs s) (hc : Hid (IsCan (rows xs))) (ho : Hid (s = [] ∨ OkW s)) (sa : Sml 10000 xs) (htl : t.length ≤ 64) (hsl : s.length ≤ 64) (hb : Below w0.heap.size w0 w) (hb1 : Below w1.heap.size w1 w)
    (k : ∀ u w' zs, IsRel w' u zs → Hid (PutOf xs t s zs) → Below w0.heap.size w0 w' → Q (.returned u) w') : Calls Tryd.prog 80 #[va, vt, vs] w Q :=
  (Put_any va vt vs xs t s w (ha.keep hb) (ht.keep hb) (hs.keep hb1) hc.out ho.out sa htl hsl).mono fun e w' ⟨u, he, zs, hu, hp, hB⟩ => by subst he; exact k u w' zs hu (Lib.hid hp) (below_trans hb hB)
set_option maxHeartbeats 4000000 in
set_option maxRecDepth 1000000 in
theorem rOfR_any (va : Value) (xs : List RR) (w : World) (ha : IsRel w va xs) (sa : Sml 10000 xs) :
    Calls Tryd.prog 76 #[va] w fun e w' => ∃ u, e = .returned u ∧ ∃ zs, IsRel w' u zs ∧ CanOf xs zs ∧ Below w.heap.size w w' := by
  have HS := Lib.hid sa.each
  have hl := sa.len
  obtain ⟨pa, pc, rfl, -⟩ := ha.shape
  go_enter Tryd.func76, Tryd.ntmps76
  go_wp2
  go_loopg [3, 4] xs.length (fun g v3 vi wr => ∃ (i : Nat) (out : List RR), vi = .int .i64 i ∧ i ≤ xs.length ∧ xs.length - i ≤ g ∧ Hid (OfI xs i out) ∧ IsRel wr v3 out ∧ Below w.heap.size w wr)
  case atStart => exact ⟨0, [], rfl, Nat.zero_le _, Nat.le_refl _, Lib.hid (OfI.start _), IsRel.nil _, Below.refl _ _⟩
  case round =>
    obtain ⟨i, out, rfl, hi, hg, V, H3, B⟩ := hrel
    obtain ⟨p3, c3, rfl, -⟩ := H3.shape
    have haR := ha.keep B
    by_cases hlt : i < xs.length
    · have hltz : (i : Int) < (xs.length : Int) := by omega
      obtain ⟨x, hx⟩ := getElem_of_lt hlt
      obtain ⟨b, off, e, c0, c1, rx⟩ := haR.at_ hx
      cases e
      have HX := Lib.hid hx
      have hxt := (HS.out x (List.mem_of_getElem? hx)).1
      have so : Sml 10000 out := (V.out.sml fun y hy => (HS.out y hy).1).mono (by omega)
      have HCO := Lib.hid V.out.can
      clear hx c1
      have rx := rx.1
      have hsl : (canon fun k => mom (rows xs) x.t k).length ≤ 64 := Nat.le_trans (canon_le _) (by omega)
      have hok : Hid ((canon fun k => mom (rows xs) x.t k) = [] ∨ OkW (canon fun k => mom (rows xs) x.t k)) := Lib.hid (ok_or _)
      obtain ⟨s, hS⟩ : ∃ s, (canon fun k => mom (rows xs) x.t k) = s := ⟨_, rfl⟩
      rw [hS] at hsl hok
      have HSS := Lib.hid hS
      clear hS
      go_wp2
      go_region_law
        (first
          | (go_simp; go_at_call 23; refine rWhen_ts haR rx sa (by with_reducible (repeat (first | assumption | exact Below.refl _ _ | refine below_alloc' ?_ | refine below_drew' ?_ | refine below_step (by assumption) ?_))) ?_; intro u1 w1 hS1 hB1; rw [HSS.out] at hS1; have cF := cell_keep hB1 c0)
          | (go_simp; go_at_call 80; refine Put_ts H3 rx hS1 HCO hok so hxt hsl (by with_reducible (repeat (first | assumption | exact Below.refl _ _ | refine below_alloc' ?_ | refine below_drew' ?_ | refine below_step (by assumption) ?_))) (by with_reducible (repeat (first | assumption | exact Below.refl _ _ | refine below_alloc' ?_ | refine below_drew' ?_ | refine below_step (by assumption) ?_))) ?_; intro u2 w2 zs hR2 hP2 hB2))
      all_goals
        go_wp2
        go_roundg (xs.length - (i + 1))
        case measure => omega
        case rel => exact ⟨i + 1, zs, by go_num, hlt, Nat.le_refl _, Lib.hid (V.out.step HX.out (by rw [HSS.out]; exact hP2.out)), hR2, below_trans B hB2⟩
    · have hltz : ¬ (i : Int) < (xs.length : Int) := by omega
      have RES := Lib.hid (V.out.whole (by omega))
      go_wp2
      go_ret
      exact ⟨_, rfl, out, H3, RES.out, B⟩
end Go.Proofs.YtdibijhaiaiifaaDoor
/- The reference's Insert, Remove, Union, Minus and Meet. -/
namespace Go.Proofs.YtdibijhaiaiifaaDoor
open Go.RowKit
def RefRet (op : Bool → Bool → Bool) (xs ys : List RR) (w : World) (e : Ending) (w' : World) : Prop := ∃ u, e = .returned u ∧ ∃ zs, IsRel w' u zs ∧ OpOf op xs ys zs ∧ Below w.heap.size w w'
set_option maxHeartbeats 4000000 in
set_option maxRecDepth 1000000 in
theorem rInsertR_any (va vt vs : Value) (xs : List RR) (t : Tp) (s : List Sp) (w : World) (ha : IsRel w va xs) (ht : IsVals w vt t) (hs : IsSpans w vs s) (sa : Sml 10000 xs) (htl : t.length ≤ 64) : Calls Tryd.prog 26 #[va, vt, vs] w (RefRet opU xs [rr t s] w) := by
  go_enter Tryd.func26, Tryd.ntmps26
  go_wp2_with fail
  refine (rOfR_any va xs w ha sa).mono ?_
  rintro e w1 ⟨u1, rfl, ns, R1, C1, B1⟩
  replace ha := ha.keep B1
  replace ht := ht.keep B1
  replace hs := hs.keep B1
  have HC := Lib.hid C1
  have sn := C1.sml _ sa
  clear C1
  go_wp2_with fail
  refine (rWhen_any va vt xs t w1 ha ht sa).mono ?_
  rintro e w2 ⟨u2, rfl, S2, B2⟩
  replace R1 := R1.keep B2
  replace ht := ht.keep B2
  replace hs := hs.keep B2
  replace B1 := below_trans B1 B2
  obtain ⟨W, hW⟩ : ∃ W, (canon fun k => mom (rows xs) t k) = W := ⟨_, rfl⟩
  rw [hW] at S2
  have HW := Lib.hid hW
  clear hW ha B2
  go_wp2_with fail
  refine (rUnion_any u2 vs W s w2 S2 hs).mono ?_
  rintro e w3 ⟨u3, rfl, S3, B3⟩
  replace R1 := R1.keep B3
  replace ht := ht.keep B3
  replace B1 := below_trans B1 B3
  clear S2 hs B3
  go_wp2_with fail
  refine (Put_any u1 vt u3 ns t _ w3 R1 ht S3 HC.out.can (ok_or _) sn htl (Nat.le_trans (canon_le _) (by omega))).mono ?_
  rintro e w4 ⟨u4, rfl, zs, R4, P4, B4⟩
  rw [← HW.out] at P4
  go_wp2
  go_ret
  exact ⟨u4, rfl, zs, R4, ins_of (op := opU) (Bool.or_false) HC.out P4, below_trans B1 B4⟩
theorem rInsertR_ts {va vt vs : Value} {xs : List RR} {t : Tp} {s : List Sp} {w0 w : World} {Q : Ending → World → Prop} (ha : IsRel w0 va xs) (ht : IsVals w0 vt t) (hs : IsSpans w0 vs s) (sa : Sml 10000 xs) (htl : t.length ≤ 64) (hb : Below w0.heap.size w0 w)
    (k : ∀ u w' zs, IsRel w' u zs → Hid (OpOf opU xs [rr t s] zs) → Below w0.heap.size w0 w' → Q (.returned u) w') : Calls Tryd.prog 26 #[va, vt, vs] w Q :=
  (rInsertR_any va vt vs xs t s w (ha.keep hb) (ht.keep hb) (hs.keep hb) sa htl).mono fun e w' ⟨u, he, zs, hu, hp, hB⟩ => by subst he; exact k u w' zs hu (Lib.hid hp) (below_trans hb hB)
set_option maxHeartbeats 4000000 in
set_option maxRecDepth 1000000 in
theorem rRemoveR_any (va vt vs : Value) (xs : List RR) (t : Tp) (s : List Sp) (w : World) (ha : IsRel w va xs) (ht : IsVals w vt t) (hs : IsSpans w vs s) (sa : Sml 10000 xs) (htl : t.length ≤ 64) : Calls Tryd.prog 28 #[va, vt, vs] w (RefRet opD xs [rr t s] w) := by
  go_enter Tryd.func28, Tryd.ntmps28
  go_wp2_with fail
  refine (rOfR_any va xs w ha sa).mono ?_
  rintro e w1 ⟨u1, rfl, ns, R1, C1, B1⟩
  replace ha := ha.keep B1
  replace ht := ht.keep B1
  replace hs := hs.keep B1
  have HC := Lib.hid C1
  have sn := C1.sml _ sa
  clear C1
  go_wp2_with fail
  refine (rWhen_any va vt xs t w1 ha ht sa).mono ?_
  rintro e w2 ⟨u2, rfl, S2, B2⟩
  replace R1 := R1.keep B2
  replace ht := ht.keep B2
  replace hs := hs.keep B2
  replace B1 := below_trans B1 B2
  obtain ⟨W, hW⟩ : ∃ W, (canon fun k => mom (rows xs) t k) = W := ⟨_, rfl⟩
  rw [hW] at S2
  have HW := Lib.hid hW
  clear hW ha B2
  go_wp2_with fail
  refine (rMinus_any u2 vs W s w2 S2 hs).mono ?_
  rintro e w3 ⟨u3, rfl, S3, B3⟩
  replace R1 := R1.keep B3
  replace ht := ht.keep B3
  replace B1 := below_trans B1 B3
  clear S2 hs B3
  go_wp2_with fail
  refine (Put_any u1 vt u3 ns t _ w3 R1 ht S3 HC.out.can (ok_or _) sn htl (Nat.le_trans (canon_le _) (by omega))).mono ?_
  rintro e w4 ⟨u4, rfl, zs, R4, P4, B4⟩
  rw [← HW.out] at P4
  go_wp2
  go_ret
  exact ⟨u4, rfl, zs, R4, ins_of (op := opD) (fun b => by cases b <;> rfl) HC.out P4, below_trans B1 B4⟩
theorem rRemoveR_ts {va vt vs : Value} {xs : List RR} {t : Tp} {s : List Sp} {w0 w : World} {Q : Ending → World → Prop} (ha : IsRel w0 va xs) (ht : IsVals w0 vt t) (hs : IsSpans w0 vs s) (sa : Sml 10000 xs) (htl : t.length ≤ 64) (hb : Below w0.heap.size w0 w)
    (k : ∀ u w' zs, IsRel w' u zs → Hid (OpOf opD xs [rr t s] zs) → Below w0.heap.size w0 w' → Q (.returned u) w') : Calls Tryd.prog 28 #[va, vt, vs] w Q :=
  (rRemoveR_any va vt vs xs t s w (ha.keep hb) (ht.keep hb) (hs.keep hb) sa htl).mono fun e w' ⟨u, he, zs, hu, hp, hB⟩ => by subst he; exact k u w' zs hu (Lib.hid hp) (below_trans hb hB)
set_option maxHeartbeats 4000000 in
set_option maxRecDepth 1000000 in
theorem rUnionR_any (va vb : Value) (xs ys : List RR) (w : World) (ha : IsRel w va xs) (hb : IsRel w vb ys) (sa : Sml 4000 xs) (sb : Sml 4000 ys) : Calls Tryd.prog 30 #[va, vb] w (RefRet opU xs ys w) := by
  have SA := Lib.hid sa
  have SB := Lib.hid sb.each
  have hl := sb.len
  clear sb
  obtain ⟨pb, pc, rfl, -⟩ := hb.shape
  go_enter Tryd.func30, Tryd.ntmps30
  go_wp2_with fail
  refine (rOfR_any va xs w ha (sa.mono (by decide))).mono ?_
  rintro e w1 ⟨u1, rfl, ns, R1, C1, B1⟩
  replace hb := hb.keep B1
  have HC := Lib.hid C1
  clear C1 sa ha
  go_wp2
  go_loopg [5, 6] ys.length (fun g v5 vi wr => ∃ (i : Nat) (out : List RR), vi = .int .i64 i ∧ i ≤ ys.length ∧ ys.length - i ≤ g ∧ Hid (CatI opU xs ys i out) ∧ IsRel wr v5 out ∧ Below w1.heap.size w1 wr)
  case atStart => exact ⟨0, ns, rfl, Nat.zero_le _, Nat.le_refl _, Lib.hid (CatI.start (Bool.or_false) HC.out ys), R1, Below.refl _ _⟩
  case round =>
    obtain ⟨i, out, rfl, hi, hg, V, H5, B⟩ := hrel
    obtain ⟨p5, c5, rfl, -⟩ := H5.shape
    have hbR := hb.keep B
    by_cases hlt : i < ys.length
    · have hltz : (i : Int) < (ys.length : Int) := by omega
      obtain ⟨x, hx⟩ := getElem_of_lt hlt
      obtain ⟨b, off, e, c0, c1, rx⟩ := hbR.at_ hx
      cases e
      have HX := Lib.hid hx
      have hxt := (SB.out x (List.mem_of_getElem? hx)).1
      have so : Sml 10000 out := (V.out.sml 4000 SA.out SB.out).mono (by omega)
      clear hx
      go_wp2
      go_region_law
        (first
          | (go_simp; go_at_call 26; refine rInsertR_ts H5 rx.1 rx.2 so hxt (by with_reducible (repeat (first | assumption | exact Below.refl _ _ | refine below_alloc' ?_ | refine below_drew' ?_ | refine below_step (by assumption) ?_))) ?_; intro u2 w2 zs hR2 hP2 hB2))
      all_goals
        go_wp2
        go_roundg (ys.length - (i + 1))
        case measure => omega
        case rel => exact ⟨i + 1, zs, by go_num, hlt, Nat.le_refl _, Lib.hid (V.out.step (fun a b c => Bool.or_assoc a b c) HX.out hP2.out), hR2, below_trans B hB2⟩
    · have hltz : ¬ (i : Int) < (ys.length : Int) := by omega
      have RES := Lib.hid (V.out.whole (by omega))
      go_wp2
      go_ret
      exact ⟨_, rfl, out, H5, RES.out, below_trans B1 B⟩
set_option maxHeartbeats 4000000 in
set_option maxRecDepth 1000000 in
theorem rMinusR_any (va vb : Value) (xs ys : List RR) (w : World) (ha : IsRel w va xs) (hb : IsRel w vb ys) (sa : Sml 4000 xs) (sb : Sml 4000 ys) : Calls Tryd.prog 34 #[va, vb] w (RefRet opD xs ys w) := by
  have SA := Lib.hid sa
  have SB := Lib.hid sb.each
  have hl := sb.len
  clear sb
  obtain ⟨pb, pc, rfl, -⟩ := hb.shape
  go_enter Tryd.func34, Tryd.ntmps34
  go_wp2_with fail
  refine (rOfR_any va xs w ha (sa.mono (by decide))).mono ?_
  rintro e w1 ⟨u1, rfl, ns, R1, C1, B1⟩
  replace hb := hb.keep B1
  have HC := Lib.hid C1
  clear C1 sa ha
  go_wp2
  go_loopg [5, 6] ys.length (fun g v5 vi wr => ∃ (i : Nat) (out : List RR), vi = .int .i64 i ∧ i ≤ ys.length ∧ ys.length - i ≤ g ∧ Hid (CatI opD xs ys i out) ∧ IsRel wr v5 out ∧ Below w1.heap.size w1 wr)
  case atStart => exact ⟨0, ns, rfl, Nat.zero_le _, Nat.le_refl _, Lib.hid (CatI.start (fun b => by cases b <;> rfl) HC.out ys), R1, Below.refl _ _⟩
  case round =>
    obtain ⟨i, out, rfl, hi, hg, V, H5, B⟩ := hrel
    obtain ⟨p5, c5, rfl, -⟩ := H5.shape
    have hbR := hb.keep B
    by_cases hlt : i < ys.length
    · have hltz : (i : Int) < (ys.length : Int) := by omega
      obtain ⟨x, hx⟩ := getElem_of_lt hlt
      obtain ⟨b, off, e, c0, c1, rx⟩ := hbR.at_ hx
      cases e
      have HX := Lib.hid hx
      have hxt := (SB.out x (List.mem_of_getElem? hx)).1
      have so : Sml 10000 out := (V.out.sml 4000 SA.out SB.out).mono (by omega)
      clear hx
      go_wp2
      go_region_law
        (first
          | (go_simp; go_at_call 28; refine rRemoveR_ts H5 rx.1 rx.2 so hxt (by with_reducible (repeat (first | assumption | exact Below.refl _ _ | refine below_alloc' ?_ | refine below_drew' ?_ | refine below_step (by assumption) ?_))) ?_; intro u2 w2 zs hR2 hP2 hB2))
      all_goals
        go_wp2
        go_roundg (ys.length - (i + 1))
        case measure => omega
        case rel => exact ⟨i + 1, zs, by go_num, hlt, Nat.le_refl _, Lib.hid (V.out.step (fun a b c => by cases a <;> cases b <;> cases c <;> rfl) HX.out hP2.out), hR2, below_trans B hB2⟩
    · have hltz : ¬ (i : Int) < (ys.length : Int) := by omega
      have RES := Lib.hid (V.out.whole (by omega))
      go_wp2
      go_ret
      exact ⟨_, rfl, out, H5, RES.out, below_trans B1 B⟩
theorem rMeet_ts {va vb : Value} {a b : List Sp} {w0 w1 w : World} {Q : Ending → World → Prop} (ha : IsSpans w0 va a) (hb : IsSpans w1 vb b) (h0 : Below w0.heap.size w0 w) (h1 : Below w1.heap.size w1 w)
    (k : ∀ u w', IsSpans w' u (canon fun k => setOf a k && setOf b k) → Below w0.heap.size w0 w' → Q (.returned u) w') : Calls Tryd.prog 85 #[va, vb] w Q :=
  (rMeet_any va vb a b w (ha.keep h0) (hb.keep h1)).mono fun e w' ⟨u, he, hu, hB⟩ => by subst he; exact k u w' hu (below_trans h0 hB)
set_option maxHeartbeats 8000000 in
set_option maxRecDepth 1000000 in
theorem rMeetR_any (va vb : Value) (xs ys : List RR) (w : World) (ha : IsRel w va xs) (hb : IsRel w vb ys) (sa : Sml 4000 xs) (sb : Sml 10000 ys) : Calls Tryd.prog 32 #[va, vb] w fun e w' => ∃ u, e = .returned u ∧ ∃ zs, IsRel w' u zs ∧ (IsCan (rows zs) ∧ ∀ t k, k < 64 → mom (rows zs) t k = opM (mom (rows xs) t k) (mom (rows ys) t k)) ∧ Below w.heap.size w w' := by
  obtain ⟨pb, pc, rfl, -⟩ := hb.shape
  go_enter Tryd.func32, Tryd.ntmps32
  go_wp2_with fail
  refine (rOfR_any va xs w ha (sa.mono (by decide))).mono ?_
  rintro e w1 ⟨u1, rfl, ls, R1, C1, B1⟩
  replace hb := hb.keep B1
  have HC := Lib.hid C1
  have sl := C1.sml _ sa
  have SL := Lib.hid sl
  have hl := sl.len
  clear C1 sa ha sl
  obtain ⟨p6, c6, rfl, -⟩ := R1.shape
  go_wp2
  go_loopg [5, 7] ls.length (fun g v5 vi wr => ∃ (i : Nat) (out : List RR), vi = .int .i64 i ∧ i ≤ ls.length ∧ ls.length - i ≤ g ∧ Hid (MeetI ls ys i out) ∧ IsRel wr v5 out ∧ Below w1.heap.size w1 wr)
  case atStart => exact ⟨0, ls, rfl, Nat.zero_le _, Nat.le_refl _, Lib.hid (MeetI.start HC.out.can ys), R1, Below.refl _ _⟩
  case round =>
    obtain ⟨i, out, rfl, hi, hg, V, H5, B⟩ := hrel
    obtain ⟨p5, c5, rfl, -⟩ := H5.shape
    have hbR := hb.keep B
    by_cases hlt : i < ls.length
    · have hltz : (i : Int) < (ls.length : Int) := by omega
      obtain ⟨x, hx⟩ := getElem_of_lt hlt
      obtain ⟨b, off, e, c0, c1, rx⟩ := (R1.keep B).at_ hx
      cases e
      have HX := Lib.hid hx
      have hxt := (SL.out.each x (List.mem_of_getElem? hx)).1
      have so : Sml 10000 out := (V.out.sml 4000 SL.out).mono (by omega)
      have HCO := Lib.hid V.out.can
      clear hx
      obtain ⟨W, hW⟩ : ∃ W, (canon fun k => mom (rows ys) x.t k) = W := ⟨_, rfl⟩
      have HW := Lib.hid hW
      clear hW
      have hsl : (canon fun k => setOf x.s k && setOf W k).length ≤ 64 := Nat.le_trans (canon_le _) (by omega)
      have hok : Hid ((canon fun k => setOf x.s k && setOf W k) = [] ∨ OkW (canon fun k => setOf x.s k && setOf W k)) := Lib.hid (ok_or _)
      obtain ⟨s, hS⟩ : ∃ s, (canon fun k => setOf x.s k && setOf W k) = s := ⟨_, rfl⟩
      rw [hS] at hsl hok
      have HSS := Lib.hid hS
      clear hS
      have rx1 := rx.1
      have rx2 := rx.2
      clear rx
      go_wp2
      go_region_law
        (first
          | (go_simp; go_at_call 23; refine rWhen_ts hbR rx1 sb (by with_reducible (repeat (first | assumption | exact Below.refl _ _ | refine below_alloc' ?_ | refine below_drew' ?_ | refine below_step (by assumption) ?_))) ?_; intro u1 wA hS1 hB1; rw [HW.out] at hS1; have cF := cell_keep hB1 c0; have cG := cell_keep hB1 c1)
          | (go_simp; go_at_call 85; refine rMeet_ts rx2 hS1 (by with_reducible (repeat (first | assumption | exact Below.refl _ _ | refine below_alloc' ?_ | refine below_drew' ?_ | refine below_step (by assumption) ?_))) (by with_reducible (repeat (first | assumption | exact Below.refl _ _ | refine below_alloc' ?_ | refine below_drew' ?_ | refine below_step (by assumption) ?_))) ?_; intro u2 wB hS2 hB2; rw [HSS.out] at hS2; have cH := cell_keep hB2 c0)
          | (go_simp; go_at_call 80; refine Put_ts H5 rx1 hS2 HCO hok so hxt hsl (by with_reducible (repeat (first | assumption | exact Below.refl _ _ | refine below_alloc' ?_ | refine below_drew' ?_ | refine below_step (by assumption) ?_))) (by with_reducible (repeat (first | assumption | exact Below.refl _ _ | refine below_alloc' ?_ | refine below_drew' ?_ | refine below_step (by assumption) ?_))) ?_; intro u3 w2 zs hR2 hP2 hB3))
      all_goals
        go_wp2
        go_roundg (ls.length - (i + 1))
        case measure => omega
        case rel => exact ⟨i + 1, zs, by go_num, hlt, Nat.le_refl _, Lib.hid (V.out.step HC.out.can HX.out hxt (by rw [HW.out, HSS.out]; exact hP2.out)), hR2, below_trans B hB3⟩
    · have hltz : ¬ (i : Int) < (ls.length : Int) := by omega
      have RES := Lib.hid (V.out.whole HC.out (by omega))
      have HCO := Lib.hid V.out.can
      go_wp2
      go_ret
      exact ⟨_, rfl, out, H5, ⟨HCO.out, RES.out⟩, below_trans B1 B⟩
end Go.Proofs.YtdibijhaiaiifaaDoor
/- The reference's Matches. -/
namespace Go.Proofs.YtdibijhaiaiifaaDoor
open Go.RowKit
/-- Whether the terms at k and i let a tuple pass together. -/
def PairOk (ts : List Tm) (t : Tp) (i k : Nat) : Prop := ∀ (m m' : Tm) (y z : Vl), ts[i]? = some m → ts[k]? = some m' → t[i]? = some y → t[k]? = some z → m.v ≠ [] → m'.v = m.v → z = y
def ConstOk (ts : List Tm) (t : Tp) (i : Nat) : Prop := ∀ (m : Tm) (y : Vl), ts[i]? = some m → t[i]? = some y → m.v = [] → y = m.c
theorem first_is {ts : List Tm} {v : List UInt8} {i : Nat} {m : Tm} (h : ts[i]? = some m) (hv : m.v = v) : ∃ m', ts[firstOf ts v]? = some m' ∧ m'.v = v := by
  have hle := firstOf_le h
  rw [hv] at hle
  have hlt : firstOf ts v < ts.length := Nat.lt_of_le_of_lt hle (List.getElem?_eq_some_iff.1 h).1
  refine ⟨ts[firstOf ts v], List.getElem?_eq_getElem hlt, ?_⟩
  have := List.findIdx_getElem (p := fun u : Tm => decide (u.v = v)) (xs := ts) (w := hlt)
  rw [decide_eq_true_eq] at this
  exact this
theorem match_pairs {ts : List Tm} {t : Tp} (hl : t.length = ts.length) (h : ∀ i, i < ts.length → ConstOk ts t i ∧ ∀ k, k < i → PairOk ts t i k) : matchL ts t = true := by
  refine match_all hl fun i hi => ?_
  obtain ⟨m, hm⟩ : ∃ m, ts[i]? = some m := ⟨_, List.getElem?_eq_getElem hi⟩
  obtain ⟨y, hy⟩ : ∃ y, t[i]? = some y := ⟨_, List.getElem?_eq_getElem (by omega)⟩
  obtain ⟨h1, h2⟩ := h i hi
  by_cases hv : m.v = []
  · rw [okAt_const hm hy hv]
    exact decide_eq_true (h1 m y hm hy hv)
  · have hle := firstOf_le hm
    obtain ⟨m', hm', hv'⟩ := first_is hm rfl
    obtain ⟨f, hf⟩ : ∃ f, firstOf ts m.v = f := ⟨_, rfl⟩
    rw [hf] at hle hm'
    obtain ⟨z, hz⟩ : ∃ z, t[f]? = some z := ⟨_, List.getElem?_eq_getElem (by omega)⟩
    rw [okAt_var hm hy hv (by rw [hf]; exact hz)]
    refine decide_eq_true ?_
    rcases Nat.lt_or_eq_of_le hle with hlt | e
    · exact h2 f hlt m m' y z hm hm' hy hz hv hv'
    · subst e
      rw [hy] at hz
      exact (Option.some.inj hz).symm
theorem match_ok {ts : List Tm} {t : Tp} (h : matchL ts t = true) {i : Nat} (hi : i < ts.length) : t.length = ts.length ∧ okAt ts t i = true := by
  unfold matchL at h
  rw [Bool.and_eq_true, decide_eq_true_eq, List.all_eq_true] at h
  exact ⟨h.1, h.2 i (List.mem_range.2 hi)⟩
theorem match_const {ts : List Tm} {t : Tp} {i : Nat} {m : Tm} {y : Vl} (hm : ts[i]? = some m) (hy : t[i]? = some y) (hv : m.v = []) (hne : y ≠ m.c) : matchL ts t = false := match_not (List.getElem?_eq_some_iff.1 hm).1 (by rw [okAt_const hm hy hv]; exact decide_eq_false hne)
theorem match_pair {ts : List Tm} {t : Tp} {i k : Nat} {m m' : Tm} {y z : Vl} (hm : ts[i]? = some m) (hm' : ts[k]? = some m') (hy : t[i]? = some y) (hz : t[k]? = some z) (hv : m.v ≠ []) (hvv : m'.v = m.v) (hne : z ≠ y) : matchL ts t = false := by
  cases e : matchL ts t with
  | false => rfl
  | true =>
    obtain ⟨hl, h1⟩ := match_ok e (List.getElem?_eq_some_iff.1 hm).1
    obtain ⟨-, h2⟩ := match_ok e (List.getElem?_eq_some_iff.1 hm').1
    have hle := firstOf_le hm
    have hlt := (List.getElem?_eq_some_iff.1 hm).1
    obtain ⟨u, hu⟩ : ∃ u, t[firstOf ts m.v]? = some u := ⟨_, List.getElem?_eq_getElem (by omega)⟩
    rw [okAt_var hm hy hv hu, decide_eq_true_eq] at h1
    rw [okAt_var hm' hz (by rw [hvv]; exact hv) (by rw [hvv]; exact hu), decide_eq_true_eq] at h2
    exact absurd (h2.symm.trans h1) hne
set_option maxHeartbeats 8000000 in
set_option maxRecDepth 1000000 in
theorem rMatches_any (va vt : Value) (t : Tp) (ts : List Tm) (w : World) (ha : IsVals w va t) (h : IsTerms w vt ts) : Calls Tryd.prog 46 #[va, vt] w fun e w' => e = .returned (.bool (matchL ts t)) ∧ Below w.heap.size w w' := by
  obtain ⟨R, hR⟩ : ∃ R, matchL ts t = R := ⟨_, rfl⟩
  rw [hR]
  have HR := Lib.hid hR
  clear hR
  obtain ⟨pt, ct, rfl, hm⟩ := h.shape
  obtain ⟨nt, hnt⟩ : ∃ nt, t.length = nt := ⟨_, rfl⟩
  obtain ⟨pa, ca, rfl, hrv, hma⟩ := id ha
  rw [hnt] at ha
  rw [hnt]
  have hm1 : nt ≤ 9223372036854775807 := by omega
  clear hrv hma
  go_enter Tryd.func46, Tryd.ntmps46
  by_cases hl : nt = ts.length
  · have hne : ((nt : Int) != (ts.length : Int)) = false := by rw [hl]; simp
    have HL := Lib.hid (hnt.trans hl)
    have HNT := Lib.hid hnt
    have hl1 : nt ≤ ts.length := by omega
    clear hl hnt
    go_wp2
    go_loopg [5] nt (fun g vi wr => ∃ (i : Nat), vi = .int .i64 i ∧ i ≤ nt ∧ nt - i ≤ g ∧ Hid (∀ j, j < i → ConstOk ts t j ∧ ∀ k, k < j → PairOk ts t j k) ∧ Below w.heap.size w wr)
    case atStart => exact ⟨0, rfl, Nat.zero_le _, Nat.le_refl _, Lib.hid (by omega), Below.refl _ _⟩
    case round =>
      obtain ⟨i, rfl, hi, hg, V, B⟩ := hrel
      by_cases hlt : i < nt
      · have hltz : (i : Int) < (nt : Int) := by omega
        have hlts : (i : Int) < (ts.length : Int) := by omega
        obtain ⟨m, hx2⟩ := getElem_of_lt (l := ts) (i := i) (by omega)
        obtain ⟨y, hy⟩ := getElem_of_lt (l := t) (i := i) (by have := HNT.out; omega)
        obtain ⟨b, off, e, c0, c1, c2, c3⟩ := (h.keep B).at_ hx2
        cases e
        obtain ⟨_, _, e, hrv, -⟩ := ha.keep B
        injection e with e1 e2 e3
        subst e1 e3
        obtain ⟨vb, vo, rfl, d0, d1, d2⟩ := vals_at hrv hy
        clear hrv e2
        have HM := Lib.hid hx2
        have HY := Lib.hid hy
        clear hx2 hy
        obtain ⟨q0, hq0⟩ : ∃ q, decide (m.v = []) = q := ⟨_, rfl⟩
        have hem : m.v.isEmpty = q0 := by rw [← hq0, Bool.eq_iff_iff, decide_eq_true_iff]; exact List.isEmpty_iff
        have HQ0 := Lib.hid hq0
        clear hq0
        obtain ⟨q, hq⟩ : ∃ q, (!decide (y = m.c)) = q := ⟨_, rfl⟩
        have hqr : ∀ w, (binOp .neq 58 (.agg #[.int .i64 y.t, .int .i64 y.n, strV y.s]) (.agg #[.int .i64 m.c.t, .int .i64 m.c.n, strV m.c.s])).run Tryd.prog w = .ok (.bool q) w := fun w => by rw [← hq]; exact run_neq_vl y m.c w
        have hgd := run_guard_vl .neq
        have HQ := Lib.hid hq
        clear hq
        cases q0 with
        | true =>
          cases q with
          | true =>
            have RES := Lib.hid (show R = false from HR.out.symm.trans (match_const HM.out HY.out (of_decide_eq_true HQ0.out) (by have := HQ.out; simpa using this)))
            go_upto_region 6 with fail
            have a_c0 := AftB.cell c0
            have a_c1 := AftB.cell c1
            have a_c2 := AftB.cell c2
            have a_c3 := AftB.cell c3
            have a_d0 := AftB.cell d0
            have a_d1 := AftB.cell d1
            have a_d2 := AftB.cell d2
            refine wp_region_aftB (by kernel_rfl) (by kernel_rfl) ?_
            repeat (go_big_quiet_step (fail))
            refine wpQuiet_nil ?_
            intro w5 Bw5
            clear a_c0 a_c1 a_c2 a_c3 a_d0 a_d1 a_d2
            go_wp2
            go_ret
            exact ⟨by rw [RES.out]; rfl, B.trans (Bw5.mono B.size)⟩
          | false =>
            have CO := Lib.hid (show ConstOk ts t i from fun m1 y1 h1 h2 _ => by
              have e := HM.out.symm.trans h1; cases e
              have e := HY.out.symm.trans h2; cases e
              have := HQ.out; simpa using this)
            go_upto_region 6 with fail
            have a_c0 := AftB.cell c0
            have a_c1 := AftB.cell c1
            have a_c2 := AftB.cell c2
            have a_c3 := AftB.cell c3
            have a_d0 := AftB.cell d0
            have a_d1 := AftB.cell d1
            have a_d2 := AftB.cell d2
            refine wp_region_aftB (by kernel_rfl) (by kernel_rfl) ?_
            repeat (go_big_quiet_step (fail))
            refine wpQuiet_nil ?_
            intro w5 Bw5
            clear a_c0 a_c1 a_c2 a_c3 a_d0 a_d1 a_d2
            replace B := B.trans (Bw5.mono B.size)
            replace c0 := cell_keep Bw5 c0
            replace c1 := cell_keep Bw5 c1
            replace c2 := cell_keep Bw5 c2
            replace c3 := cell_keep Bw5 c3
            replace d0 := cell_keep Bw5 d0
            replace d1 := cell_keep Bw5 d1
            replace d2 := cell_keep Bw5 d2
            clear Bw5
            go_wp2
            go_loopg [6] i (fun g vk wq => ∃ (k : Nat), vk = .int .i64 k ∧ k ≤ i ∧ i - k ≤ g ∧ Hid (∀ j, j < k → PairOk ts t i j) ∧ Below w5.heap.size w5 wq)
            case atStart => exact ⟨0, rfl, Nat.zero_le _, Nat.le_refl _, Lib.hid (by omega), Below.refl _ _⟩
            case round =>
              obtain ⟨k, rfl, hk, hg2, VK, Bk⟩ := hrel
              replace c0 := cell_keep Bk c0
              replace c1 := cell_keep Bk c1
              replace c2 := cell_keep Bk c2
              replace c3 := cell_keep Bk c3
              replace d0 := cell_keep Bk d0
              replace d1 := cell_keep Bk d1
              replace d2 := cell_keep Bk d2
              have BK := B.trans (Bk.mono B.size)
              by_cases hlk : k < i
              · have hlkz : (k : Int) < (i : Int) := by omega
                have VS := Lib.hid (show ∀ j, j < k + 1 → PairOk ts t i j from fun j hj => by
                  rcases Nat.lt_or_eq_of_le (Nat.le_of_lt_succ hj) with hj | rfl
                  · exact VK.out j hj
                  · intro m1 m2 y1 z1 h1 h2 h3 h4 h5 h6
                    have e := HM.out.symm.trans h1
                    cases e
                    exact absurd (of_decide_eq_true HQ0.out) h5)
                go_upto_region 11 with fail
                have a_c0 := AftB.cell c0
                have a_c1 := AftB.cell c1
                have a_c2 := AftB.cell c2
                have a_c3 := AftB.cell c3
                have a_d0 := AftB.cell d0
                have a_d1 := AftB.cell d1
                have a_d2 := AftB.cell d2
                refine wp_region_aftB (by kernel_rfl) (by kernel_rfl) ?_
                repeat (go_big_quiet_step (fail))
                refine wpQuiet_nil ?_
                intro w6 Bw6
                clear a_c0 a_c1 a_c2 a_c3 a_d0 a_d1 a_d2
                go_wp2
                go_roundg (i - (k + 1))
                case measure => omega
                case rel => exact ⟨k + 1, by go_num, hlk, Nat.le_refl _, VS, Bk.trans (Bw6.mono Bk.size)⟩
              · have hlkz : ¬ (k : Int) < (i : Int) := by omega
                have VS := Lib.hid (show ∀ j, j < i + 1 → ConstOk ts t j ∧ ∀ k, k < j → PairOk ts t j k from fun j hj => by
                  rcases Nat.lt_or_eq_of_le (Nat.le_of_lt_succ hj) with hj | rfl
                  · exact V.out j hj
                  · exact ⟨CO.out, fun k' hk' => VK.out k' (by omega)⟩)
                go_wp2
                go_roundg (nt - (i + 1))
                case measure => omega
                case rel => exact ⟨i + 1, by go_num, hlt, Nat.le_refl _, VS, BK⟩
        | false =>
          have CO := Lib.hid (show ConstOk ts t i from fun m1 y1 h1 h2 h3 => by
            have e := HM.out.symm.trans h1; cases e
            exact absurd h3 (of_decide_eq_false HQ0.out))
          go_upto_region 6 with fail
          have a_c0 := AftB.cell c0
          have a_c1 := AftB.cell c1
          have a_c2 := AftB.cell c2
          have a_c3 := AftB.cell c3
          have a_d0 := AftB.cell d0
          have a_d1 := AftB.cell d1
          have a_d2 := AftB.cell d2
          refine wp_region_aftB (by kernel_rfl) (by kernel_rfl) ?_
          repeat (go_big_quiet_step (fail))
          refine wpQuiet_nil ?_
          intro w5 Bw5
          clear a_c0 a_c1 a_c2 a_c3 a_d0 a_d1 a_d2
          replace B := B.trans (Bw5.mono B.size)
          replace c0 := cell_keep Bw5 c0
          replace c1 := cell_keep Bw5 c1
          replace c2 := cell_keep Bw5 c2
          replace c3 := cell_keep Bw5 c3
          replace d0 := cell_keep Bw5 d0
          replace d1 := cell_keep Bw5 d1
          replace d2 := cell_keep Bw5 d2
          clear Bw5
          go_wp2
          go_loopg [6] i (fun g vk wq => ∃ (k : Nat), vk = .int .i64 k ∧ k ≤ i ∧ i - k ≤ g ∧ Hid (∀ j, j < k → PairOk ts t i j) ∧ Below w5.heap.size w5 wq)
          case atStart => exact ⟨0, rfl, Nat.zero_le _, Nat.le_refl _, Lib.hid (by omega), Below.refl _ _⟩
          case round =>
            obtain ⟨k, rfl, hk, hg2, VK, Bk⟩ := hrel
            replace c0 := cell_keep Bk c0
            replace c1 := cell_keep Bk c1
            replace c2 := cell_keep Bk c2
            replace c3 := cell_keep Bk c3
            replace d0 := cell_keep Bk d0
            replace d1 := cell_keep Bk d1
            replace d2 := cell_keep Bk d2
            have BK := B.trans (Bk.mono B.size)
            by_cases hlk : k < i
            · have hlkz : (k : Int) < (i : Int) := by omega
              have hlk1 : (k : Int) < (nt : Int) := by omega
              have hlk2 : (k : Int) < (ts.length : Int) := by omega
              obtain ⟨m2, hx3⟩ := getElem_of_lt (l := ts) (i := k) (by omega)
              obtain ⟨z, hz⟩ := getElem_of_lt (l := t) (i := k) (by have := HNT.out; omega)
              obtain ⟨_, _, e, g0, -, -, -⟩ := (h.keep BK).at_ hx3
              cases e
              obtain ⟨_, _, e, hrv, -⟩ := ha.keep BK
              injection e with e1 e2 e3
              obtain ⟨_, _, e, f0, f1, f2⟩ := vals_at hrv hz
              rw [← e1] at e
              cases e
              clear hrv e1 e2 e3
              have HM2 := Lib.hid hx3
              have HZ := Lib.hid hz
              clear hx3 hz
              obtain ⟨q1, hq1⟩ : ∃ q, decide (m2.v = m.v) = q := ⟨_, rfl⟩
              have hse2 : ∀ w, (binOp .eql 9 (strV m2.v) (strV m.v)).run Tryd.prog w = .ok (.bool q1) w := fun w => by rw [← hq1]; exact run_eq_str m2.v m.v w
              have heq2 : (m2.v == m.v) = q1 := by rw [← hq1, beq_dec]
              have HQ1 := Lib.hid hq1
              clear hq1
              obtain ⟨q2, hq2⟩ : ∃ q, (!decide (z = y)) = q := ⟨_, rfl⟩
              have hqr2 : ∀ w, (binOp .neq 58 (.agg #[.int .i64 z.t, .int .i64 z.n, strV z.s]) (.agg #[.int .i64 y.t, .int .i64 y.n, strV y.s])).run Tryd.prog w = .ok (.bool q2) w := fun w => by rw [← hq2]; exact run_neq_vl z y w
              have HQ2 := Lib.hid hq2
              clear hq2
              have VP := Lib.hid (show (q1 = false ∨ q2 = false) → ∀ j, j < k + 1 → PairOk ts t i j from fun hp j hj => by
                rcases Nat.lt_or_eq_of_le (Nat.le_of_lt_succ hj) with hj | rfl
                · exact VK.out j hj
                · intro n1 n2 y1 z1 h1 h2 h3 h4 h5 h6
                  have e := HM.out.symm.trans h1; cases e
                  have e := HM2.out.symm.trans h2; cases e
                  have e := HY.out.symm.trans h3; cases e
                  have e := HZ.out.symm.trans h4; cases e
                  rcases hp with hp | hp
                  · rw [← HQ1.out] at hp; exact absurd h6 (of_decide_eq_false hp)
                  · rw [← HQ2.out] at hp
                    simpa using hp)
              have VN := Lib.hid (show q1 = true → q2 = true → R = false from fun h1 h2 => by
                rw [← HR.out]
                refine match_pair HM.out HM2.out HY.out HZ.out (of_decide_eq_false HQ0.out) (of_decide_eq_true (HQ1.out.trans h1)) ?_
                rw [← HQ2.out] at h2
                simpa using h2)
              cases q1 with
              | false =>
                have VS := Lib.hid (VP.out (.inl rfl))
                clear VP VN
                go_upto_region 11 with fail
                have a_c0 := AftB.cell c0
                have a_c1 := AftB.cell c1
                have a_c2 := AftB.cell c2
                have a_c3 := AftB.cell c3
                have a_d0 := AftB.cell d0
                have a_d1 := AftB.cell d1
                have a_d2 := AftB.cell d2
                have a_g0 := AftB.cell g0
                have a_f0 := AftB.cell f0
                have a_f1 := AftB.cell f1
                have a_f2 := AftB.cell f2
                refine wp_region_aftB (by kernel_rfl) (by kernel_rfl) ?_
                repeat (go_big_quiet_step (fail))
                refine wpQuiet_nil ?_
                intro w6 Bw6
                clear a_c0 a_c1 a_c2 a_c3 a_d0 a_d1 a_d2 a_g0 a_f0 a_f1 a_f2
                go_wp2
                go_roundg (i - (k + 1))
                case measure => omega
                case rel => exact ⟨k + 1, by go_num, hlk, Nat.le_refl _, VS, Bk.trans (Bw6.mono Bk.size)⟩
              | true =>
                cases q2 with
                | false =>
                  have VS := Lib.hid (VP.out (.inr rfl))
                  clear VP VN
                  go_upto_region 11 with fail
                  have a_c0 := AftB.cell c0
                  have a_c1 := AftB.cell c1
                  have a_c2 := AftB.cell c2
                  have a_c3 := AftB.cell c3
                  have a_d0 := AftB.cell d0
                  have a_d1 := AftB.cell d1
                  have a_d2 := AftB.cell d2
                  have a_g0 := AftB.cell g0
                  have a_f0 := AftB.cell f0
                  have a_f1 := AftB.cell f1
                  have a_f2 := AftB.cell f2
                  refine wp_region_aftB (by kernel_rfl) (by kernel_rfl) ?_
                  repeat (go_big_quiet_step (fail))
                  refine wpQuiet_nil ?_
                  intro w6 Bw6
                  clear a_c0 a_c1 a_c2 a_c3 a_d0 a_d1 a_d2 a_g0 a_f0 a_f1 a_f2
                  go_wp2
                  go_roundg (i - (k + 1))
                  case measure => omega
                  case rel => exact ⟨k + 1, by go_num, hlk, Nat.le_refl _, VS, Bk.trans (Bw6.mono Bk.size)⟩
                | true =>
                  have RES := Lib.hid (VN.out rfl rfl)
                  clear VP VN
                  go_upto_region 11 with fail
                  have a_c0 := AftB.cell c0
                  have a_c1 := AftB.cell c1
                  have a_c2 := AftB.cell c2
                  have a_c3 := AftB.cell c3
                  have a_d0 := AftB.cell d0
                  have a_d1 := AftB.cell d1
                  have a_d2 := AftB.cell d2
                  have a_g0 := AftB.cell g0
                  have a_f0 := AftB.cell f0
                  have a_f1 := AftB.cell f1
                  have a_f2 := AftB.cell f2
                  refine wp_region_aftB (by kernel_rfl) (by kernel_rfl) ?_
                  repeat (go_big_quiet_step (fail))
                  refine wpQuiet_nil ?_
                  intro w6 Bw6
                  clear a_c0 a_c1 a_c2 a_c3 a_d0 a_d1 a_d2 a_g0 a_f0 a_f1 a_f2
                  go_wp2
                  go_ret
                  exact ⟨by rw [RES.out]; rfl, BK.trans (Bw6.mono BK.size)⟩
            · have hlkz : ¬ (k : Int) < (i : Int) := by omega
              have VS := Lib.hid (show ∀ j, j < i + 1 → ConstOk ts t j ∧ ∀ k, k < j → PairOk ts t j k from fun j hj => by
                rcases Nat.lt_or_eq_of_le (Nat.le_of_lt_succ hj) with hj | rfl
                · exact V.out j hj
                · exact ⟨CO.out, fun k' hk' => VK.out k' (by omega)⟩)
              go_wp2
              go_roundg (nt - (i + 1))
              case measure => omega
              case rel => exact ⟨i + 1, by go_num, hlt, Nat.le_refl _, VS, BK⟩
      · have hltz : ¬ (i : Int) < (nt : Int) := by omega
        have RES := Lib.hid (HR.out.symm.trans (match_pairs HL.out fun j hj => V.out j (by have := HNT.out; have := HL.out; omega)))
        go_wp2
        go_ret
        exact ⟨by rw [RES.out]; rfl, B⟩
  · have hne : ((nt : Int) != (ts.length : Int)) = true := by rw [bne_iff_ne]; omega
    have RES := Lib.hid (show R = false by rw [← HR.out]; unfold matchL; rw [hnt, decide_eq_false hl, Bool.false_and])
    clear hnt
    go_wp2
    go_ret
    exact ⟨by rw [RES.out]; rfl, Below.refl _ _⟩
end Go.Proofs.YtdibijhaiaiifaaDoor
/- The reference's Valid of a value. -/
namespace Go.Proofs.YtdibijhaiaiifaaDoor
open Go.RowKit
set_option maxHeartbeats 1000000 in
theorem letter_any (n : Int) (w : World) : Calls Tryd.prog 150 #[.int .u8 n] w fun e w' => e = .returned (.bool (ltrI n)) ∧ w = w' := by
  have HL := Lib.hid (show ltrI n = ((decide (97 ≤ n) && decide (n ≤ 122)) || (decide (65 ≤ n) && decide (n ≤ 90)) || (decide (48 ≤ n) && decide (n ≤ 57)) || decide (n = 95)) from rfl)
  go_enter Tryd.func150, Tryd.ntmps150
  go_wp2
  all_goals
    go_ret
    refine ⟨ret_bool ?_, rfl⟩
    rw [HL.out, Bool.eq_iff_iff]
    simp
    omega
def encStr (l : List UInt8) : List Value := [strV l]
theorem encsStr : Encs 1 encStr := ⟨fun _ => rfl, fun x u hu => by unfold encStr at hu; simp at hu; subst hu; rfl⟩
def IsStrs (w : World) (v : Value) (l : List (List UInt8)) : Prop := IsRows 1 encStr w v l
theorem IsStrs.keep {w w' : World} {v : Value} {l : List (List UInt8)} (h : IsStrs w v l) (hb : Below w.heap.size w w') : IsStrs w' v l := IsRows.keep h (keeps_below hb)
theorem IsStrs.at_ {w : World} {a : Option Addr} {n c : Nat} {l : List (List UInt8)} (h : IsStrs w (.slice a n c) l) {i : Nat} {x : List UInt8} (hi : l[i]? = some x) : ∃ b off, a = some ⟨b, off, none⟩ ∧ w.cell? ⟨b, off + i, none⟩ = some (strV x) := by
  obtain ⟨a', c', e, hr, hm⟩ := h
  injection e with e1 e2 e3
  subst e1
  obtain ⟨b, off, ha, hc⟩ := hr.at_ hi
  have := hc i x hi 0 _ rfl
  exact ⟨b, off, ha, by simpa using this⟩
def keyW : List (List UInt8) := [[108, 97, 116, 116, 105, 99, 101], [102, 117, 110, 99, 116, 105, 111, 110], [111, 110], [98, 97, 115, 101], [118, 105, 101, 119], [107, 101, 121], [100, 101, 110, 121], [110, 111, 116], [105, 110, 116], [115, 121, 109]]
theorem keyW_is : keyW = keyWords := by decide +kernel
theorem keyWords_ten : keyWords.length = 10 := by decide +kernel
theorem words_any (w : World) : Calls Tryd.prog 155 #[] w fun e w' => ∃ u, e = .returned u ∧ IsStrs w' u keyWords ∧ Below w.heap.size w w' := by
  have X := IsRows.lit (e := 9) w keyW encsStr (by decide)
  have B := below_new w (.cells (keyW.flatMap encStr).toArray 9)
  go_enter Tryd.func155, Tryd.ntmps155
  go_wp2
  go_ret
  exact ⟨_, rfl, by rw [← keyW_is]; exact X, B⟩
set_option maxHeartbeats 1000000 in
theorem Key_any (l : List UInt8) (w : World) : Calls Tryd.prog 151 #[strV l] w fun e w' => e = .returned (.bool (decide (l ∈ keyWords))) ∧ Below w.heap.size w w' := by
  obtain ⟨r, hr⟩ : ∃ r, decide (l ∈ keyWords) = r := ⟨_, rfl⟩
  rw [hr]
  have HR := Lib.hid hr
  clear hr
  go_enter Tryd.func151, Tryd.ntmps151
  go_wp2_with fail
  refine (words_any w).mono ?_
  rintro e w1 ⟨u, rfl, hS, B1⟩
  have HK := Lib.hid (show keyWords.length = 10 from keyWords_ten)
  obtain ⟨pu, cu, rfl, -⟩ := id hS
  rw [HK.out] at hS
  rw [HK.out]
  go_wp2
  go_loopg [4] 10 (fun g vi wr => ∃ k : Nat, w1 = wr ∧ vi = .int .i64 k ∧ k ≤ 10 ∧ 10 - k ≤ g ∧ Hid (∀ j, j < k → keyWords.getD j [] ≠ l))
  case atStart => exact ⟨0, rfl, rfl, Nat.zero_le _, Nat.le_refl _, Lib.hid fun j hj => by omega⟩
  case round =>
    obtain ⟨k, rfl, rfl, hk, hg, V⟩ := hrel
    by_cases hlt : k < 10
    · have hltz : (k : Int) < 10 := by omega
      obtain ⟨kw, hkw⟩ := getElem_of_lt (l := keyWords) (i := k) (by rw [HK.out]; exact hlt)
      obtain ⟨b, off, e, c0⟩ := hS.at_ hkw
      cases e
      have HKW := Lib.hid (show keyWords.getD k [] = kw by rw [List.getD_eq_getElem?_getD, hkw]; rfl)
      have HMM := Lib.hid (List.mem_of_getElem? hkw)
      clear hkw
      by_cases he : kw = l
      · have hq : (kw == l) = true := by rw [he]; simp
        have RES := Lib.hid (show r = true by rw [← HR.out]; exact decide_eq_true (by rw [← he]; exact HMM.out))
        clear he
        go_wp2
        go_ret
        exact ⟨by rw [RES.out]; rfl, B1⟩
      · have hq : (kw == l) = false := by simpa using he
        have VN := Lib.hid (show ∀ j, j < k + 1 → keyWords.getD j [] ≠ l from fun j hj => by
          rcases Nat.lt_or_eq_of_le (Nat.le_of_lt_succ hj) with hj | rfl
          · exact V.out j hj
          · exact fun e => he (by rw [← e, HKW.out]))
        clear he
        go_wp2
        go_roundg (10 - (k + 1))
        case measure => omega
        case rel => exact ⟨k + 1, rfl, by go_num, hlt, Nat.le_refl _, VN⟩
    · have hltz : ¬ (k : Int) < 10 := by omega
      have RES := Lib.hid (show r = false by
        rw [← HR.out]
        refine decide_eq_false fun h => ?_
        obtain ⟨j, hj, e⟩ := List.getElem_of_mem h
        refine V.out j (by rw [HK.out] at hj; omega) ?_
        rw [List.getD_eq_getElem?_getD, List.getElem?_eq_getElem hj]; exact e)
      go_wp2
      go_ret
      exact ⟨by rw [RES.out]; rfl, B1⟩
theorem all_take {l : List UInt8} {k : Nat} (hk : k < l.length) : (l.take (k + 1)).all isLetter = ((l.take k).all isLetter && isLetter l[k]) := by rw [List.take_succ_eq_append_getElem hk, List.all_append]; simp
set_option maxHeartbeats 4000000 in
set_option maxRecDepth 1000000 in
theorem rSymbol_any (l : List UInt8) (hl : l.length ≤ 9223372036854775807) (w : World) : Calls Tryd.prog 142 #[strV l] w fun e w' => e = .returned (.bool (symB l)) ∧ Below w.heap.size w w' := by
  cases l with
  | nil =>
    go_enter Tryd.func142, Tryd.ntmps142
    go_wp2
    go_ret
    exact ⟨rfl, Below.refl _ _⟩
  | cons c r =>
    obtain ⟨R, hR⟩ : ∃ R, symB (c :: r) = R := ⟨_, rfl⟩
    rw [hR]
    obtain ⟨s, hs⟩ : ∃ s : ByteArray, s = ⟨(c :: r).toArray⟩ := ⟨_, rfl⟩
    have hsz : s.size = (c :: r).length := by rw [hs]; rfl
    have h0 : 0 < s.size := by rw [hsz]; simp
    have hc : (s[0]'h0) = c := by subst hs; rfl
    have HG := Lib.hid (show ∀ k (h : k < s.size), ∃ hk : k < (c :: r).length, s[k]'h = (c :: r)[k] from fun k h => ⟨by omega, by subst hs; rfl⟩)
    have hK := fun w => Key_any (c :: r) w
    have HV : strV (c :: r) = .string s := by rw [hs]
    rw [HV] at hK
    rw [HV]
    rw [← hsz] at hl
    clear HV hs
    have h1 : decide ((s.size : Int) < 1) = false := decide_eq_false (by omega)
    by_cases h16 : s.size ≤ 16
    · have q1 : decide ((16 : Int) < (s.size : Int)) = false := decide_eq_false (by omega)
      have hH := head_of (c := c) (r := r) (by omega)
      rw [← hc] at hH
      by_cases h97 : 97 ≤ (s[0]'h0).toNat
      · have q2 : decide (((s[0]'h0).toNat : Int) < 97) = false := decide_eq_false (by omega)
        by_cases h122 : (s[0]'h0).toNat ≤ 122
        · have q3 : decide ((122 : Int) < ((s[0]'h0).toNat : Int)) = false := decide_eq_false (by omega)
          have HS := Lib.hid (show R = ((c :: r).all isLetter && decide (c :: r ∉ keyWords)) by rw [← hR]; exact sym_of (by rw [show headOk (c :: r) = headOk (s[0] :: r) by rw [hc], hH, decide_eq_true h97, decide_eq_true h122]; rfl))
          have HSZ := Lib.hid hsz
          clear hH hsz hc hR
          go_enter Tryd.func142, Tryd.ntmps142
          go_wp2
          go_loopg [3] s.size (fun g v3 wr => ∃ k : Nat, v3 = .int .i64 k ∧ k ≤ s.size ∧ s.size - k ≤ g ∧ Hid (((c :: r).take k).all isLetter = true) ∧ Below w.heap.size w wr)
          case atStart => exact ⟨0, rfl, Nat.zero_le _, Nat.le_refl _, Lib.hid rfl, Below.refl _ _⟩
          case round =>
            obtain ⟨k, rfl, hk, hg, V, B⟩ := hrel
            by_cases hp : k < s.size
            · have hpz : (k : Int) < (s.size : Int) := by omega
              obtain ⟨hk', e'⟩ := HG.out k hp
              have HT := Lib.hid (all_take hk')
              rw [← e'] at HT
              have HM := Lib.hid (List.getElem_mem hk')
              rw [← e'] at HM
              clear e'
              obtain ⟨y, hy⟩ : ∃ y, s[k]'hp = y := ⟨_, rfl⟩
              rw [hy] at HT HM
              go_wp2_with fail
              refine (letter_any _ _).mono ?_
              rintro e w5 ⟨rfl, rfl⟩
              clear hy
              rw [show ltrI (y.toNat : Int) = isLetter y from rfl]
              cases hcl : isLetter y
              · have RES := Lib.hid (show R = false by rw [HS.out, show (c :: r).all isLetter = false by rw [List.all_eq_false]; exact ⟨y, HM.out, by rw [hcl]; simp⟩]; rfl)
                clear hcl
                go_wp2
                go_ret
                exact ⟨by rw [RES.out]; rfl, B⟩
              · have VN := Lib.hid (show ((c :: r).take (k + 1)).all isLetter = true by rw [HT.out, V.out, hcl]; rfl)
                clear hcl
                go_wp2
                go_roundg (s.size - (k + 1))
                case measure => omega
                case rel => exact ⟨k + 1, by go_num, hp, Nat.le_refl _, VN, B⟩
            · have hpz : ¬ (k : Int) < (s.size : Int) := by omega
              have RES := Lib.hid (show R = !decide (c :: r ∈ keyWords) by rw [HS.out, show (c :: r).all isLetter = true by (have := V.out; rwa [List.take_of_length_le (by have := HSZ.out; omega)] at this), Bool.true_and]; simp)
              go_wp2_with fail
              refine (hK _).mono ?_
              rintro e w5 ⟨rfl, B5⟩
              obtain ⟨q, hq⟩ : ∃ q, decide (c :: r ∈ keyWords) = q := ⟨_, rfl⟩
              rw [hq] at RES
              rw [hq]
              clear hq
              go_wp2
              go_ret
              exact ⟨by rw [RES.out]; rfl, below_trans B B5⟩
        · have q3 : decide ((122 : Int) < ((s[0]'h0).toNat : Int)) = true := decide_eq_true (by omega)
          have RES := Lib.hid (hR.symm.trans (sym_head (l := c :: r) (by rw [show headOk (c :: r) = headOk (s[0] :: r) by rw [hc], hH, decide_eq_false h122]; simp)))
          clear hH hsz hc hR
          go_enter Tryd.func142, Tryd.ntmps142
          go_wp2
          go_ret
          exact ⟨by rw [RES.out]; rfl, Below.refl _ _⟩
      · have q2 : decide (((s[0]'h0).toNat : Int) < 97) = true := decide_eq_true (by omega)
        have RES := Lib.hid (hR.symm.trans (sym_head (l := c :: r) (by rw [show headOk (c :: r) = headOk (s[0] :: r) by rw [hc], hH, decide_eq_false h97]; simp)))
        clear hH hsz hc hR
        go_enter Tryd.func142, Tryd.ntmps142
        go_wp2
        go_ret
        exact ⟨by rw [RES.out]; rfl, Below.refl _ _⟩
    · have RES := Lib.hid (hR.symm.trans (sym_head (head_long (l := c :: r) (by omega))))
      have q1 : decide ((16 : Int) < (s.size : Int)) = true := decide_eq_true (by omega)
      clear hsz hc hR
      go_enter Tryd.func142, Tryd.ntmps142
      go_wp2
      go_ret
      exact ⟨by rw [RES.out]; rfl, Below.refl _ _⟩
end Go.Proofs.YtdibijhaiaiifaaDoor
/- The reference's Valid of relations, At and Select. -/
namespace Go.Proofs.YtdibijhaiaiifaaDoor
open Go.RowKit
set_option maxHeartbeats 1000000 in
theorem rValidV_any (x : Vl) (w : World) : Calls Tryd.prog 121 #[valV x] w fun e w' => e = .returned (.bool (validV x)) ∧ Below w.heap.size w w' := by
  unfold valV
  have BA := below_new w (.cells #[.int .i64 x.t, .int .i64 x.n, strV x.s] 58)
  have X := Cel.new w 58 [.int .i64 x.t, .int .i64 x.n, strV x.s]
  obtain ⟨v, hv⟩ : ∃ v, validV x = v := ⟨_, rfl⟩
  have HI := Lib.hid (fun h => (valid_int (x := x) h).symm.trans hv)
  have HS := Lib.hid (fun h => (valid_sym (x := x) h).symm.trans hv)
  have HN := Lib.hid (fun h k => (valid_no (x := x) h k).symm.trans hv)
  rw [hv]
  clear hv
  obtain ⟨t, n, s, ok⟩ := x
  dsimp only at *
  go_enter Tryd.func121, Tryd.ntmps121
  go_upto_region 1 with fail
  obtain ⟨wA, hwA⟩ : ∃ z, w.alloc (.cells #[.int .i64 t, .int .i64 n, strV s] 58) = z := ⟨_, rfl⟩
  have X' : Cel wA w.heap.size 58 [.int .i64 t, .int .i64 n, strV s] := by rw [← hwA]; exact X
  rw [hwA] at BA
  rw [hwA]
  clear hwA X
  have q0 := X'.at_ (j := 0) rfl
  have q1 := X'.at_ (j := 1) rfl
  have q2 := X'.at_ (j := 2) rfl
  by_cases h1 : t = 1
  · subst h1
    have HI2 := Lib.hid (HI.out rfl)
    clear HI HS HN
    by_cases hn0 : 0 ≤ n
    · have z0 : decide (0 ≤ n) = true := decide_eq_true hn0
      by_cases hn9 : n ≤ 9999
      · have z9 : decide (n ≤ 9999) = true := decide_eq_true hn9
        cases s with
        | nil =>
          have RES := Lib.hid (show v = true by rw [← HI2.out, z0, z9]; rfl)
          go_wp2
          go_ret
          exact ⟨by rw [RES.out]; rfl, BA⟩
        | cons c r =>
          have RES := Lib.hid (show v = false by rw [← HI2.out]; simp)
          go_wp2
          go_ret
          exact ⟨by rw [RES.out]; rfl, BA⟩
      · have z9 : decide (n ≤ 9999) = false := decide_eq_false hn9
        have RES := Lib.hid (show v = false by rw [← HI2.out, z9]; simp)
        go_wp2
        go_ret
        exact ⟨by rw [RES.out]; rfl, BA⟩
    · have z0 : decide (0 ≤ n) = false := decide_eq_false hn0
      have RES := Lib.hid (show v = false by rw [← HI2.out, z0]; simp)
      go_wp2
      go_ret
      exact ⟨by rw [RES.out]; rfl, BA⟩
  · have e1 : (t == 1) = false := by rw [beq_eq_false_iff_ne]; exact h1
    by_cases h2 : t = 2
    · subst h2
      have HS2 := Lib.hid (HS.out rfl)
      clear HI HS HN h1
      by_cases hn0 : n = 0
      · subst hn0
        go_wp2_with fail
        refine (rSymbol_any s ok _).mono ?_
        rintro e w2 ⟨rfl, B2⟩
        have RES := Lib.hid (show symB s = v by rw [← HS2.out]; simp)
        rw [RES.out]
        go_wp2
        go_ret
        exact ⟨rfl, below_trans BA B2⟩
      · have z0 : (n == 0) = false := by rw [beq_eq_false_iff_ne]; exact hn0
        have RES := Lib.hid (show v = false by rw [← HS2.out, decide_eq_false hn0]; rfl)
        clear hn0
        go_wp2
        go_ret
        exact ⟨by rw [RES.out]; rfl, BA⟩
    · have e2 : (t == 2) = false := by rw [beq_eq_false_iff_ne]; exact h2
      have RES := Lib.hid (HN.out h1 h2)
      clear h1 h2 HI HS HN
      go_wp2
      go_ret
      exact ⟨by rw [← RES.out]; rfl, BA⟩
theorem rValidV_aftB {W : World} {x : Vl} {b : Bool} (hb : validV x = b) (p : AftB W) : Calls Tryd.prog 121 #[valV x] p.w' fun e w'' => e = .returned (.bool b) ∧ ∃ q : AftB W, w'' = q.w' := by
  refine AftB.call ?_
  rw [← hb]
  exact rValidV_any x p.w'
def TypRet (ty : List Int) (t : Tp) (w : World) (e : Ending) (w' : World) : Prop := ∃ b, e = .returned (.bool b) ∧ (b = true ↔ Typed ty t) ∧ Below w.heap.size w w'
theorem TypRet.no {ty : List Int} {t : Tp} {w w' : World} (h : ¬ Typed ty t) (hb : Below w.heap.size w w') : TypRet ty t w (.returned (.bool false)) w' := ⟨false, rfl, ⟨fun e => (by cases e), fun g => absurd g h⟩, hb⟩
theorem TypRet.yes {ty : List Int} {t : Tp} {w w' : World} (h : Typed ty t) (hb : Below w.heap.size w w') : TypRet ty t w (.returned (.bool true)) w' := ⟨true, rfl, ⟨fun _ => h, fun _ => rfl⟩, hb⟩
set_option maxHeartbeats 4000000 in
set_option maxRecDepth 1000000 in
theorem rTyped_any (vt va : Value) (ty : List Int) (t : Tp) (w : World) (ht : IsInts w vt ty) (ha : IsVals w va t) : Calls Tryd.prog 75 #[vt, va] w (TypRet ty t w) := by
  obtain ⟨pt, pc, rfl, -, hmt⟩ := id ht
  obtain ⟨nt, hnt⟩ : ∃ nt, t.length = nt := ⟨_, rfl⟩
  obtain ⟨pa, ca, rfl, -, hma⟩ := id ha
  rw [hnt] at ha hma
  rw [hnt]
  have hm1 : nt ≤ 9223372036854775807 := by omega
  have hm2 : ty.length ≤ 9223372036854775807 := by omega
  clear hma hmt
  go_enter Tryd.func75, Tryd.ntmps75
  by_cases hl : nt = ty.length
  · have hne : ((nt : Int) != (ty.length : Int)) = false := by rw [hl]; simp
    have HL := Lib.hid (hnt.trans hl)
    have HNT := Lib.hid hnt
    have hl1 : nt ≤ ty.length := by omega
    have hl2 : ty.length ≤ nt := by omega
    clear hl hnt
    go_wp2
    go_loopg [5] nt (fun g vi wr => ∃ (k : Nat), vi = .int .i64 k ∧ k ≤ nt ∧ nt - k ≤ g ∧ Hid (TypedTo ty t k) ∧ Below w.heap.size w wr)
    case atStart => exact ⟨0, rfl, Nat.zero_le _, Nat.le_refl _, Lib.hid ⟨HL.out, fun i _ _ h => by omega⟩, Below.refl _ _⟩
    case round =>
      obtain ⟨k, rfl, hk, hg, VT, B⟩ := hrel
      by_cases hlk : k < nt
      · have hlkz : (k : Int) < (nt : Int) := by omega
        have hlty : (k : Int) < (ty.length : Int) := by omega
        obtain ⟨y, hy⟩ := getElem_of_lt (l := t) (i := k) (by have := HNT.out; omega)
        obtain ⟨τ, hτ⟩ := getElem_of_lt (l := ty) (i := k) (by omega)
        obtain ⟨_, _, e, hvr, -⟩ := ha.keep B
        injection e with e1 e2 e3
        subst e1 e3
        obtain ⟨vb, vo, rfl, d0, d1, d2⟩ := vals_at hvr hy
        obtain ⟨tb, tof, rfl, g0⟩ := (ht.keep B).at_ hτ
        have VY := Lib.hid (fun (h1 : y.t = τ) (h2 : validV y = true) => (show TypedTo ty t (k + 1) from ⟨HL.out, fun i x' y' hi hx' hy' => by
          rcases Nat.lt_or_eq_of_le (Nat.le_of_lt_succ hi) with hi | rfl
          · exact VT.out.2 i x' y' hi hx' hy'
          · rw [hτ] at hx'; rw [hy] at hy'; cases hx'; cases hy'; exact ⟨h1, h2⟩⟩))
        have VN := Lib.hid (fun (h : ¬ (y.t = τ ∧ validV y = true)) => (show ¬ Typed ty t from fun g => h (g.2 k τ y hτ hy)))
        clear hy hτ hvr e2
        have a0 := AftB.cell d0
        have a1 := AftB.cell d1
        have a2 := AftB.cell d2
        have a3 := AftB.cell g0
        cases hvy : validV y
        · have RES := Lib.hid (VN.out fun h => by rw [hvy] at h; cases h.2)
          clear VY VN
          go_upto_region 6 with fail
          refine wp_region_aftB (by kernel_rfl) (by kernel_rfl) ?_
          repeat (go_big_quiet_step ((exact rValidV_aftB hvy _)))
          refine wpQuiet_nil ?_
          intro w6 B6
          clear a0 a1 a2 a3
          go_wp2
          go_ret
          exact TypRet.no RES.out (B.trans (B6.mono B.size))
        · by_cases hyt : y.t = τ
          · have VS := Lib.hid (VY.out hyt hvy)
            have e0 : (y.t != τ) = false := by rw [hyt]; simp
            clear hyt VY VN
            go_upto_region 6 with fail
            refine wp_region_aftB (by kernel_rfl) (by kernel_rfl) ?_
            repeat (go_big_quiet_step ((exact rValidV_aftB hvy _)))
            refine wpQuiet_nil ?_
            intro w6 B6
            clear a0 a1 a2 a3
            go_wp2
            go_roundg (nt - (k + 1))
            case measure => omega
            case rel => exact ⟨k + 1, by go_num, hlk, Nat.le_refl _, VS, B.trans (B6.mono B.size)⟩
          · have RES := Lib.hid (VN.out fun h => hyt h.1)
            have e0 : (y.t != τ) = true := by rw [bne_iff_ne]; exact hyt
            clear hyt VY VN
            go_upto_region 6 with fail
            refine wp_region_aftB (by kernel_rfl) (by kernel_rfl) ?_
            repeat (go_big_quiet_step ((exact rValidV_aftB hvy _)))
            refine wpQuiet_nil ?_
            intro w6 B6
            clear a0 a1 a2 a3
            go_wp2
            go_ret
            exact TypRet.no RES.out (B.trans (B6.mono B.size))
      · have hlkz : ¬ (k : Int) < (nt : Int) := by omega
        have VS := Lib.hid (show Typed ty t from ⟨HL.out, fun i' x' y' hx' hy' => VT.out.2 i' x' y' (by have := (List.getElem?_eq_some_iff.1 hx').1; omega) hx' hy'⟩)
        go_wp2
        go_ret
        exact TypRet.yes VS.out B
  · have hne : ((nt : Int) != (ty.length : Int)) = true := by rw [bne_iff_ne]; omega
    have RES := Lib.hid (show ¬ Typed ty t from fun g => hl (hnt.symm.trans g.1))
    clear hnt
    go_wp2
    go_ret
    exact TypRet.no RES.out (Below.refl _ _)
theorem can_eq {xs ns : List RR} (h : CanOf xs ns) : rows xs = rows ns ↔ IsCan (rows xs) := ⟨fun e => by rw [e]; exact h.can, fun c => same_of c h.can fun t k hk => (h.mom t k hk).symm⟩
set_option maxHeartbeats 4000000 in
set_option maxRecDepth 1000000 in
theorem rValidR_any (vt va : Value) (ty : List Int) (xs : List RR) (w : World) (ht : IsInts w vt ty) (ha : IsRel w va xs) (sa : Sml 10000 xs) : Calls Tryd.prog 20 #[vt, va] w (VldRet ty xs w) := by
  have SA := Lib.hid sa
  clear sa
  obtain ⟨pa, ca, rfl, hma⟩ := ha.shape
  go_enter Tryd.func20, Tryd.ntmps20
  go_wp2
  go_loopg [5] xs.length (fun g vi wr => ∃ i : Nat, vi = .int .i64 i ∧ i ≤ xs.length ∧ xs.length - i ≤ g ∧ Hid (∀ x ∈ xs.take i, Typed ty x.t) ∧ Below w.heap.size w wr)
  case atStart => exact ⟨0, rfl, Nat.zero_le _, Nat.le_refl _, Lib.hid (by simp), Below.refl _ _⟩
  case round =>
    obtain ⟨i, rfl, hi, hg, V, B⟩ := hrel
    by_cases hlt : i < xs.length
    · have hltz : (i : Int) < (xs.length : Int) := by omega
      obtain ⟨x, hx⟩ := getElem_of_lt hlt
      obtain ⟨b, off, e, c0, c1, rx⟩ := (ha.keep B).at_ hx
      cases e
      have HX := Lib.hid hx
      clear hx
      go_wp2_with fail
      refine (rTyped_any _ _ ty x.t _ (ht.keep B) rx.1).mono ?_
      rintro e w1 ⟨q, rfl, hq, B1⟩
      have HQ := Lib.hid hq
      clear hq c0 c1 rx
      have B2 := below_trans B B1
      cases q with
      | false =>
        have RES := Lib.hid (show ¬ GoodR ty (rows xs) from fun g => by
          have := HQ.out.2 (g.1 x.rw (mem_rows.2 ⟨x, List.mem_of_getElem? HX.out, rfl⟩))
          cases this)
        go_wp2
        go_ret
        exact VldRet.no RES.out B2
      | true =>
        have VS := Lib.hid (show ∀ y ∈ xs.take (i + 1), Typed ty y.t from fun y hy => by
          rw [take_succ' HX.out] at hy
          rcases List.mem_append.1 hy with hy | hy
          · exact V.out y hy
          · rw [List.mem_singleton.1 hy]; exact HQ.out.1 rfl)
        go_wp2
        go_roundg (xs.length - (i + 1))
        case measure => omega
        case rel => exact ⟨i + 1, by go_num, hlt, Nat.le_refl _, VS, B2⟩
    · have hltz : ¬ (i : Int) < (xs.length : Int) := by omega
      have VA := Lib.hid (show ∀ x ∈ xs, Typed ty x.t by have := V.out; rwa [List.take_of_length_le (by omega)] at this)
      replace ha := ha.keep B
      go_wp2_with fail
      refine (rOfR_any _ xs _ ha SA.out).mono ?_
      rintro e w1 ⟨u1, rfl, ns, R1, C1, B1⟩
      have HC := Lib.hid C1
      clear C1
      replace ha := ha.keep B1
      replace B1 := below_trans B B1
      go_wp2_with fail
      refine (rSameR_any _ _ xs ns _ ha R1).mono ?_
      rintro e w2 ⟨rfl, B2⟩
      obtain ⟨q, hq⟩ : ∃ q, decide (rows xs = rows ns) = q := ⟨_, rfl⟩
      rw [hq]
      have RES := Lib.hid (show q = true ↔ GoodR ty (rows xs) by
        rw [← hq, decide_eq_true_iff, can_eq HC.out]
        exact ⟨fun h => ⟨fun y hy => by obtain ⟨x, hx, rfl⟩ := mem_rows.1 hy; exact VA.out x hx, h⟩, fun h => h.2⟩)
      clear hq
      go_wp2
      go_ret
      exact ⟨q, rfl, RES.out, below_trans B1 B2⟩
end Go.Proofs.YtdibijhaiaiifaaDoor
/- The reference's At and Select. -/
namespace Go.Proofs.YtdibijhaiaiifaaDoor
open Go.RowKit
theorem tup_fresh {w : World} {r : TT} {base : Nat} {X : Nat → Prop} (h : TupOk w r) (ha : Fresh base r.v) (hx : ∀ k, X k → k < base) : Off TupOk w X r := fun w' k => IsRows.agree h k fun b hb e => by have := ha b hb; have := hx b e; omega
theorem Hold.off3 {w' : World} {r : TT} {v : Value} {out : List TT} {wr : World} {base : Nat} (H : Hold 1 25 encTT TupOk noB wr base v out) (hr : TupOk w' r) (ha : Fresh wr.heap.size r.v) : ∀ u ∈ [r], Off TupOk w' (Ex v noB) u := fun u hu => by
  rw [List.mem_singleton.1 hu]
  refine tup_fresh (base := wr.heap.size) hr ha fun k hk => ?_
  rcases hk with hk | hk
  · exact (H.1.lt k hk).2
  · exact hk.elim
set_option maxHeartbeats 4000000 in
set_option maxRecDepth 1000000 in
theorem rAtR_any (va : Value) (xs : List RR) (m : Int) (w : World) (ha : IsRel w va xs) (sa : Sml 10000 xs) :
    Calls Tryd.prog 37 #[va, .int .i64 m] w fun e w' => ∃ u, e = .returned u ∧ ∃ ts, IsTups w' u ts ∧ Hid (AtOf xs m (ts.map (·.t))) ∧ Below w.heap.size w w' := by
  have SA := Lib.hid sa
  go_enter Tryd.func37, Tryd.ntmps37
  go_wp2_with fail
  refine (rOfR_any va xs w ha sa).mono ?_
  rintro e w1 ⟨u1, rfl, ns, R1, C1, B1⟩
  have HC := Lib.hid C1
  have SN := Lib.hid (C1.sml _ sa)
  have hl := SN.out.len
  clear C1 sa ha
  obtain ⟨p6, c6, rfl, -⟩ := R1.shape
  go_wp2
  go_loopg [5, 7] ns.length (fun g v5 vi wr => ∃ (i : Nat) (out : List TT), vi = .int .i64 i ∧ i ≤ ns.length ∧ ns.length - i ≤ g ∧ Hid (out.map (·.t) = ((ns.take i).filter fun y => inSet y.s m).map (·.t)) ∧ Hid (out.length ≤ i) ∧ Hold 1 25 encTT TupOk noB wr w1.heap.size v5 out ∧ Below w1.heap.size w1 wr)
  case atStart => exact ⟨0, [], rfl, Nat.zero_le _, Nat.le_refl _, Lib.hid (by simp), Lib.hid (by simp), Hold.nil _ _, Below.refl _ _⟩
  case round =>
    obtain ⟨i, out, rfl, hi, hg, V, VL, H5, B⟩ := hrel
    obtain ⟨p5, c5, rfl⟩ := H5.form
    have hol : out.length ≤ 10000 := by have := VL.out; omega
    by_cases hlt : i < ns.length
    · have hltz : (i : Int) < (ns.length : Int) := by omega
      obtain ⟨x, hx⟩ := getElem_of_lt hlt
      obtain ⟨b, off, e, c0, c1, rx⟩ := (R1.keep B).at_ hx
      cases e
      have HX := Lib.hid hx
      have hxt := (SN.out.each x (List.mem_of_getElem? hx)).1
      clear hx
      go_wp2_with fail
      refine (rHas_any _ x.s m _ rx.2).mono ?_
      rintro e w2 ⟨rfl, B2⟩
      replace H5 := H5.keep B2
      replace c0 := cell_keep B2 c0
      have rx1 := rx.1.keep B2
      replace B2 := B.trans (B2.mono B.size)
      clear c1 rx
      obtain ⟨q, hq⟩ : ∃ q, inSet x.s m = q := ⟨_, rfl⟩
      rw [hq]
      have HQ := Lib.hid hq
      clear hq
      cases q with
      | false =>
        have VN := Lib.hid (show out.map (·.t) = ((ns.take (i + 1)).filter fun y => inSet y.s m).map (·.t) by
          rw [take_succ' HX.out, List.filter_append, List.map_append, V.out, List.filter_cons, HQ.out]; simp)
        have VM := Lib.hid (show out.length ≤ i + 1 by have := VL.out; omega)
        go_wp2
        go_roundg (ns.length - (i + 1))
        case measure => omega
        case rel => exact ⟨i + 1, out, by go_num, hlt, Nat.le_refl _, VN, VM, H5, B2⟩
      | true =>
        have hL1 : Owns 3 58 encVl (w2.alloc (.cells #[] 58)) w2.heap.size (.slice (some ⟨w2.heap.size, 0, none⟩) 0 0) [] := Owns.lit w2
        have bL1 := below_new w2 (.cells #[] 58)
        have htL : IsRows 3 encVl (w2.alloc (.cells #[] 58)) x.av x.t := rx1.keep bL1
        have cL := cell_keep bL1 c0
        go_wp2_with (at_builtin; first
          | (refine wpList_cat fitsV encsV rfl _ _ rfl rfl rfl hL1 (Below.refl _ _) htL bL1.size (by simp) (by omega) ?_; intro pA cA wA hO1 hB1 hG1; simp only [List.nil_append] at hO1; have b1 := bL1.trans hB1; have bX := below_new wA (.cells #[.slice pA x.t.length cA] 25); have hm : IsRows 1 encTT (wA.alloc (.cells #[.slice pA x.t.length cA] 25)) (.slice (some ⟨wA.heap.size, 0, none⟩) 1 1) [(⟨pA, cA, x.t⟩ : TT)] := IsRows.lit wA [_] encsT (by simp); have hmo := Hold.off3 (w' := wA.alloc (.cells #[.slice pA x.t.length cA] 25)) H5 (r := ⟨pA, cA, x.t⟩) (IsRows.keep (hO1.is encsV (by omega)) (keeps_below bX)) hO1.fresh; have b2 := b1.trans (bX.mono b1.size))
          | (refine wpList_hold fitsT encsT rfl _ _ rfl rfl rfl H5 b2 hm hmo B2.size (by omega) (by simp) ?_; intro pC cC wC H8 B8 hG8; rw [List.length_append] at H8))
        have VN := Lib.hid (show (out ++ [(⟨pA, cA, x.t⟩ : TT)]).map (·.t) = ((ns.take (i + 1)).filter fun y => inSet y.s m).map (·.t) by
          rw [take_succ' HX.out, List.filter_append, List.map_append, List.map_append, V.out, List.filter_cons, HQ.out]; simp)
        have VM := Lib.hid (show (out ++ [(⟨pA, cA, x.t⟩ : TT)]).length ≤ i + 1 by have := VL.out; simp; omega)
        go_roundg (ns.length - (i + 1))
        case measure => omega
        case rel => exact ⟨i + 1, _, by go_num, hlt, Nat.le_refl _, VN, VM, H8, B2.trans B8⟩
    · have hltz : ¬ (i : Int) < (ns.length : Int) := by omega
      have RES := Lib.hid (show AtOf xs m (out.map (·.t)) from ⟨ns, HC.out, by rw [V.out, List.take_of_length_le (by omega)]⟩)
      have RT := H5.tups (by omega)
      go_wp2
      go_ret
      exact ⟨_, rfl, out, RT, RES, below_trans B1 B⟩
theorem at_same {xs : List RR} {m : Int} {a b : List Tp} (ha : AtOf xs m a) (hb : AtOf xs m b) : a = b := by
  obtain ⟨ys, hy, rfl⟩ := ha
  obtain ⟨zs, hz, rfl⟩ := hb
  have h := same_of hy.can hz.can fun t k hk => by rw [hy.mom t k hk, hz.mom t k hk]
  have key : ∀ l : List RR, (l.filter fun y => inSet y.s m).map (·.t) = ((rows l).filter fun y => inSet y.2 m).map (·.1) := fun l => by
    unfold rows
    rw [List.filter_map, List.map_map]; rfl
  rw [key, key, h]
set_option maxHeartbeats 4000000 in
set_option maxRecDepth 1000000 in
theorem rSelectR_any (va vt : Value) (xs : List RR) (ts : List Tm) (w : World) (ha : IsRel w va xs) (ht : IsTerms w vt ts) (sa : Sml 10000 xs) :
    Calls Tryd.prog 40 #[va, vt] w fun e w' => ∃ u, e = .returned u ∧ ∃ zs, IsRel w' u zs ∧ (IsCan (rows zs) ∧ ∀ t k, k < 64 → mom (rows zs) t k = mom (rows (xs.filter fun x => matchL ts x.t)) t k) ∧ Below w.heap.size w w' := by
  have SA := Lib.hid sa
  go_enter Tryd.func40, Tryd.ntmps40
  go_wp2_with fail
  refine (rOfR_any va xs w ha sa).mono ?_
  rintro e w1 ⟨u1, rfl, ns, R1, C1, B1⟩
  replace ht := ht.keep B1
  have HC := Lib.hid C1
  have SN := Lib.hid (C1.sml _ sa)
  have hl := SN.out.len
  clear C1 sa ha
  obtain ⟨p6, c6, rfl, -⟩ := R1.shape
  go_wp2
  go_loopg [5, 7] ns.length (fun g v5 vi wr => ∃ (i : Nat) (out : List RR), vi = .int .i64 i ∧ i ≤ ns.length ∧ ns.length - i ≤ g ∧ Hid (out = (ns.take i).filter fun y => matchL ts y.t) ∧ Hid (out.length ≤ i) ∧ Hold 2 44 encR RowOk noB wr w1.heap.size v5 out ∧ Below w1.heap.size w1 wr)
  case atStart => exact ⟨0, [], rfl, Nat.zero_le _, Nat.le_refl _, Lib.hid (by simp), Lib.hid (by simp), Hold.nil _ _, Below.refl _ _⟩
  case round =>
    obtain ⟨i, out, rfl, hi, hg, V, VL, H5, B⟩ := hrel
    obtain ⟨p5, c5, rfl⟩ := H5.form
    have hol : out.length ≤ 10000 := by have := VL.out; omega
    by_cases hlt : i < ns.length
    · have hltz : (i : Int) < (ns.length : Int) := by omega
      obtain ⟨x, hx⟩ := getElem_of_lt hlt
      obtain ⟨b, off, e, c0, c1, rx⟩ := (R1.keep B).at_ hx
      cases e
      have rx0 := R1.2 x (List.mem_of_getElem? hx)
      have HX := Lib.hid hx
      clear hx
      go_wp2_with fail
      refine (rMatches_any _ _ x.t ts _ rx.1 (ht.keep B)).mono ?_
      rintro e w2 ⟨rfl, B2⟩
      replace H5 := H5.keep B2
      replace c0 := cell_keep B2 c0
      replace c1 := cell_keep B2 c1
      replace B2 := B.trans (B2.mono B.size)
      clear rx
      obtain ⟨q, hq⟩ : ∃ q, matchL ts x.t = q := ⟨_, rfl⟩
      rw [hq]
      have HQ := Lib.hid hq
      clear hq
      cases q with
      | false =>
        have VN := Lib.hid (show out = (ns.take (i + 1)).filter fun y => matchL ts y.t by
          rw [take_succ' HX.out, List.filter_append, V.out, List.filter_cons, HQ.out]; simp)
        have VM := Lib.hid (show out.length ≤ i + 1 by have := VL.out; omega)
        go_wp2
        go_roundg (ns.length - (i + 1))
        case measure => omega
        case rel => exact ⟨i + 1, out, by go_num, hlt, Nat.le_refl _, VN, VM, H5, B2⟩
      | true =>
        have bX := below_new w2 (.cells #[x.av, x.wv] 44)
        have hm : IsRows 2 encR (w2.alloc (.cells #[x.av, x.wv] 44)) (.slice (some ⟨w2.heap.size, 0, none⟩) 1 1) [x] := IsRows.lit w2 [x] encsR (by simp)
        have hmo := Hold.off1 H5 rx0 (B2.trans (bX.mono B2.size)) rfl
        go_wp2_with (at_builtin; refine wpList_hold fitsR24 encsR rfl _ _ rfl rfl rfl H5 bX hm hmo B2.size (by omega) (by simp) ?_; intro p9 c9 w9 H9 B9 hG9; rw [List.length_append] at H9)
        have VN := Lib.hid (show out ++ [x] = (ns.take (i + 1)).filter fun y => matchL ts y.t by
          rw [take_succ' HX.out, List.filter_append, V.out, List.filter_cons, HQ.out]; simp)
        have VM := Lib.hid (show (out ++ [x]).length ≤ i + 1 by have := VL.out; simp; omega)
        go_roundg (ns.length - (i + 1))
        case measure => omega
        case rel => exact ⟨i + 1, _, by go_num, hlt, Nat.le_refl _, VN, VM, H9, B2.trans B9⟩
    · have hltz : ¬ (i : Int) < (ns.length : Int) := by omega
      have RES := Lib.hid (show IsCan (rows out) ∧ ∀ t k, k < 64 → mom (rows out) t k = mom (rows (xs.filter fun x => matchL ts x.t)) t k from ⟨by rw [V.out, List.take_of_length_le (by omega)]; exact can_filter HC.out.can, fun t k hk => by
        rw [V.out, List.take_of_length_le (by omega), mom_filter, mom_filter, HC.out.mom t k hk]⟩)
      have RT := H5.rel (by omega)
      go_wp2
      go_ret
      exact ⟨_, rfl, out, RT, RES.out, below_trans B1 B⟩
end Go.Proofs.YtdibijhaiaiifaaDoor
/- Two slices that a call owns beside each other; results that read nothing before a base. -/
namespace Go.Proofs.YtdibijhaiaiifaaDoor
open Go.RowKit
theorem Off.wide {α : Type} {ok : World → α → Prop} {w : World} {X : Nat → Prop} {x : α} (hk : ∀ w w' : World, Below w.heap.size w w' → ok w x → ok w' x) (h : Off ok w X x) : Off ok w (fun k => X k ∨ w.heap.size ≤ k) x := fun w2 h2 => by
  have hsz := h2.size
  have hs : (w2.heap.extract 0 w.heap.size).size = w.heap.size := by simp; omega
  have hg : ∀ k, k < w.heap.size → (w2.heap.extract 0 w.heap.size)[k]? = w2.heap[k]? := fun k hk => by rw [Array.getElem?_extract]; simp; omega
  refine hk { w2 with heap := w2.heap.extract 0 w.heap.size } w2 ⟨rfl, rfl, rfl, ?_, fun k hk => ?_⟩ (h _ ⟨h2.os, h2.tape, h2.output, ?_, fun k hk hx => ?_⟩)
  · show (w2.heap.extract 0 w.heap.size).size ≤ w2.heap.size
    omega
  · have hk' : k < w.heap.size := by rw [← hs]; exact hk
    exact (hg k hk').symm
  · show w.heap.size ≤ (w2.heap.extract 0 w.heap.size).size
    omega
  · show (w2.heap.extract 0 w.heap.size)[k]? = w.heap[k]?
    rw [hg k hk]
    exact h2.block k hk fun q => by rcases q with q | q; exact hx q; omega
theorem Off.next {α : Type} {ok : World → α → Prop} {w w' : World} {X Y : Nat → Prop} {x : α} (hk : ∀ w w' : World, Below w.heap.size w w' → ok w x → ok w' x) (h : Off ok w X x) (hg : Agree X w w') (hY : ∀ k, Y k → X k ∨ w.heap.size ≤ k) : Off ok w' Y x := fun w2 h2 =>
  Off.wide hk h w2 ((hg.mono fun _ q => .inl q).trans (h2.mono hY))
def IsTupsF (w : World) (base : Nat) (u : Value) (ts : List TT) : Prop := ∀ w', Agree (fun k => k < base) w w' → IsTups w' u ts
theorem IsTupsF.tups {w : World} {base : Nat} {u : Value} {ts : List TT} (h : IsTupsF w base u ts) : IsTups w u ts := h w (Agree.refl _ _)
set_option maxHeartbeats 4000000 in
set_option maxRecDepth 1000000 in
theorem filterO_any (g : FuncId) (ad : Addr) (P : RR → Bool) (va : Value) (xs : List RR) (w : World) (henter : ∀ args w, (callFunc g args).run Tryd.prog w = .ok (.enter g args) w)
    (hcall : ∀ W, Below w.heap.size w W → ∀ x ∈ xs, Calls Tryd.prog g #[rowV x, .pointer (some ad)] W fun e W' => e = .returned (.bool (P x)) ∧ Below W.heap.size W W') (ha : IsRel w va xs) (hl : xs.length ≤ 1000000) :
    Calls Tryd.prog 86 #[va, .func (.func g) #[] #[.pointer (some ad)]] w fun e w' => ∃ u, e = .returned u ∧ Owns 2 44 encR w' w.heap.size u (xs.filter P) ∧ Below w.heap.size w w' := by
  obtain ⟨pa, pc, rfl, -⟩ := ha.shape
  go_enter Tryd.func86, Tryd.ntmps86
  go_wp2
  go_loopg [5, 9] xs.length (fun g v5 vi wr => ∃ (i : Nat) (out : List RR), vi = .int .i64 i ∧ i ≤ xs.length ∧ xs.length - i ≤ g ∧ Hid (out = (xs.take i).filter P) ∧ Hold 2 44 encR RowOk noB wr w.heap.size v5 out ∧ Below w.heap.size w wr)
  case atStart => exact ⟨0, [], rfl, Nat.zero_le _, Nat.le_refl _, Lib.hid (by simp), Hold.nil _ _, Below.refl _ _⟩
  case round =>
    obtain ⟨i, out, rfl, hi, hg, V, H5, B⟩ := hrel
    obtain ⟨p5, c5, rfl⟩ := H5.form
    have hol : out.length ≤ 1000000 := by
      have h1 := List.length_filter_le P (xs.take i)
      have h2 := List.length_take_le i xs
      rw [← V.out] at h1
      have := List.length_take_le' i xs
      omega
    by_cases hlt : i < xs.length
    · have hltz : (i : Int) < (xs.length : Int) := by omega
      obtain ⟨x, hx⟩ := getElem_of_lt hlt
      obtain ⟨b, off, e, c0, c1, rx⟩ := (ha.keep B).at_ hx
      cases e
      have hxm := List.mem_of_getElem? hx
      have hC := hcall _ B x hxm
      have VN := Lib.hid (filter_take (P := P) hx)
      obtain ⟨q, hq⟩ : ∃ q, P x = q := ⟨_, rfl⟩
      rw [hq] at hC VN
      clear hx hq
      unfold rowV at hC
      go_wp2_with fail
      refine hC.mono ?_
      rintro e w5 ⟨rfl, B5⟩
      have R5 := (ha.keep B).keep B5
      replace c0 := cell_keep B5 c0
      replace c1 := cell_keep B5 c1
      have H6 := H5.keep B5
      have B6 := B.trans (B5.mono B.size)
      cases q
      · have VN' := Lib.hid (show out = (xs.take (i + 1)).filter P by rw [VN.out, ← V.out]; simp)
        clear R5
        go_wp2
        go_roundg (xs.length - (i + 1))
        case measure => omega
        case rel => exact ⟨i + 1, out, by go_num, hlt, Nat.le_refl _, VN', H6, B6⟩
      · have VN' := Lib.hid (show out ++ [x] = (xs.take (i + 1)).filter P by rw [VN.out, ← V.out]; simp)
        have hm : IsRows 2 encR (w5.alloc (.cells #[x.av, x.wv] 44)) (.slice (some ⟨w5.heap.size, 0, none⟩) 1 1) [x] := IsRows.lit w5 [_] encsR (by simp)
        have B7 := below_new w5 (.cells #[x.av, x.wv] 44)
        have hmo : ∀ u ∈ [x], Off RowOk (w5.alloc (.cells #[x.av, x.wv] 44)) (Ex (.slice p5 out.length c5) noB) u := fun u hu => by
          rw [List.mem_singleton.1 hu]
          refine Off.old (w := w) (fun a b => rowOk_keep a b x) (ha.2 x hxm) (B6.trans (B7.mono B6.size)) fun k hk => ?_
          rcases hk with hk | hk
          · exact (H6.1.lt k hk).1
          · exact hk.elim
        clear R5
        go_wp2_with (at_builtin; refine wpList_hold fitsR23 encsR rfl _ _ rfl rfl rfl H6 B7 hm hmo B6.size hol (by simp) ?_; intro p9 c9 w9 H9 B9 hG9; rw [show (out ++ [x]).length = out.length + 1 by simp] at H9)
        go_roundg (xs.length - (i + 1))
        case measure => omega
        case rel => exact ⟨i + 1, _, by go_num, hlt, Nat.le_refl _, VN', H9, B6.trans B9⟩
    · have hltz : ¬ (i : Int) < (xs.length : Int) := by omega
      have RES := Lib.hid (show out = xs.filter P by rw [V.out, List.take_of_length_le (by omega)])
      go_wp2
      go_ret
      exact ⟨_, rfl, by rw [← RES.out]; exact H5.1, B⟩
set_option maxHeartbeats 4000000 in
set_option maxRecDepth 1000000 in
theorem AtF_any (va : Value) (xs : List RR) (m : Int) (w : World) (hT : Tab w) (ha : IsRel w va xs) (sa : Sml 10000 xs) :
    Calls Tryd.prog 36 #[va, .int .i64 m] w fun e w' => ∃ u, e = .returned u ∧ ∃ ts, IsTupsF w' w.heap.size u ts ∧ Hid (AtOf xs m (ts.map (·.t))) ∧ ts.length ≤ xs.length ∧ Below w.heap.size w w' := by
  have HS := Lib.hid sa
  have B1 := below_new w (.cells #[.int .i64 m] 3)
  have X := Cel.new w 3 [.int .i64 m]
  go_enter Tryd.func36, Tryd.ntmps36
  go_upto_region 1 with fail
  obtain ⟨w1, hw1⟩ : ∃ z, w.alloc (.cells #[.int .i64 m] 3) = z := ⟨_, rfl⟩
  have X' : Cel w1 w.heap.size 3 [.int .i64 m] := by rw [← hw1]; exact X
  rw [hw1] at B1
  rw [hw1]
  clear hw1 X
  obtain ⟨b3, hb3⟩ : ∃ b3, w.heap.size = b3 := ⟨_, rfl⟩
  rw [hb3] at X'
  rw [hb3]
  clear hb3
  go_wp2_with fail
  refine (canonical_any va xs _ (hT.keep B1) (ha.keep B1) sa).mono ?_
  rintro e w2 ⟨ua, rfl, al, Ra, Ca, B2⟩
  have hal : al.length ≤ xs.length := (Ca.sml xs.length ⟨Nat.le_refl _, sa.each⟩).len
  have hxl := sa.len
  have HC := Lib.hid Ca
  have R2 := Ra.rel
  have O2 : Hid (∀ x ∈ al, Off RowOk w2 (fun k => k < w.heap.size) x) := Lib.hid fun x hx w' hw => ((Ra.mono (a := w.heap.size) B1.size) w' hw).2 x hx
  obtain ⟨pa, ca, rfl, -⟩ := R2.shape
  clear sa Ca Ra ha
  have X2 := X'.keep B2
  go_wp2_with fail
  refine (filterO_any 88 ⟨b3, 0, none⟩ (fun x => inSet x.s m) _ al _ (enters_of Tryd.func88 (by kernel_rfl) rfl) (fun W hW x hx => at1_any x b3 m W ((R2.2 x hx).keep hW) (cell_keep hW (X2.at_ (j := 0) rfl))) R2 (by omega)).mono ?_
  rintro e w3 ⟨uf, rfl, W3, B3⟩
  have HB3 := Lib.hid B3
  have HB12 := Lib.hid (below_trans B1 B2)
  obtain ⟨L, HL⟩ : ∃ L, Hid (al.filter (fun x => inSet x.s m) = L) := ⟨_, Lib.hid rfl⟩
  have hLl : L.length ≤ al.length := by rw [← HL.out]; exact List.length_filter_le _ _
  rw [HL.out] at W3
  have R3 : IsRel w3 uf L := ⟨W3.is encsR (by omega), fun x hx => (R2.2 x (by rw [← HL.out] at hx; exact (List.mem_filter.1 hx).1)).keep B3⟩
  have OL : Hid (∀ x ∈ L, Off RowOk w2 (fun k => k < w.heap.size) x) := Lib.hid fun x hx => O2.out x (by rw [← HL.out] at hx; exact (List.mem_filter.1 hx).1)
  clear W3 O2
  obtain ⟨pf, cf, rfl, -⟩ := R3.shape
  replace B3 := below_trans B1 (below_trans B2 B3)
  clear R2 B1 B2 X' X2
  go_wp2
  go_loopg [5, 13] L.length (fun g v5 vi wr => ∃ (i : Nat) (out : List TT), vi = .int .i64 i ∧ i ≤ L.length ∧ L.length - i ≤ g ∧ Hid (out.map (·.t) = (L.take i).map (·.t)) ∧ out.length = i ∧ Hold 1 25 encTT TupOk (fun k => k < w.heap.size) wr w3.heap.size v5 out ∧ Below w3.heap.size w3 wr)
  case atStart => exact ⟨0, [], rfl, Nat.zero_le _, Nat.le_refl _, Lib.hid (by simp), rfl, Hold.nil _ _, Below.refl _ _⟩
  case round =>
    obtain ⟨i, out, rfl, hi, hg, V, hoi, H5, B⟩ := hrel
    have HO := Lib.hid hoi
    obtain ⟨p5, c5, rfl⟩ := H5.form
    have hol : out.length ≤ 1000000 := by omega
    clear hoi
    by_cases hlt : i < L.length
    · have hltz : (i : Int) < (L.length : Int) := by omega
      obtain ⟨x, hx⟩ := getElem_of_lt hlt
      obtain ⟨b, off, e, c0, c1, -⟩ := (R3.keep B).at_ hx
      cases e
      have HXM := Lib.hid (List.mem_of_getElem? hx)
      have VN := Lib.hid (show (out ++ [(⟨x.pa, x.ca, x.t⟩ : TT)]).map (·.t) = (L.take (i + 1)).map (·.t) by rw [take_succ' hx, List.map_append, List.map_append, V.out]; rfl)
      clear hx
      go_upto_region 5 with fail
      have BA := below_new wr (.cells #[x.av, x.wv] 44)
      have X := Cel.new wr 44 [x.av, x.wv]
      obtain ⟨wA, hwA⟩ : ∃ z, wr.alloc (.cells #[x.av, x.wv] 44) = z := ⟨_, rfl⟩
      have X' : Cel wA wr.heap.size 44 [x.av, x.wv] := by rw [← hwA]; exact X
      rw [hwA] at BA
      rw [hwA]
      clear hwA X c0 c1
      have q0 := X'.at_ (j := 0) rfl
      have H6 := H5.keep BA
      have B6 := B.trans (BA.mono B.size)
      have hm : IsRows 1 encTT (wA.alloc (.cells #[x.av] 25)) (.slice (some ⟨wA.heap.size, 0, none⟩) 1 1) [⟨x.pa, x.ca, x.t⟩] := IsRows.lit wA [_] encsT (by simp)
      have B7 := below_new wA (.cells #[x.av] 25)
      have hmo : ∀ u ∈ [(⟨x.pa, x.ca, x.t⟩ : TT)], Off TupOk (wA.alloc (.cells #[x.av] 25)) (Ex (.slice p5 out.length c5) (fun k => k < w.heap.size)) u := fun u hu => by
        rw [List.mem_singleton.1 hu]
        have hxm := HXM.out
        have h0 : Off TupOk w2 (fun k => k < w.heap.size) (⟨x.pa, x.ca, x.t⟩ : TT) := fun w' hw => (OL.out x hxm w' hw).1
        refine Off.next (fun a b => tupOk_keep a b _) h0 (Agree.of_below ((HB3.out.trans ((B6.trans (B7.mono B6.size)).mono HB3.out.size)))) fun k hk => ?_
        rcases hk with hk | hk
        · exact .inr (Nat.le_trans HB3.out.size (H6.1.lt k hk).1)
        · exact .inl hk
      go_wp2_with (at_builtin; refine wpList_hold fitsT encsT rfl _ _ rfl rfl rfl H6 B7 hm hmo B6.size hol (by simp) ?_; intro p9 c9 w9 H9 B9 hG9; rw [show (out ++ [(⟨x.pa, x.ca, x.t⟩ : TT)]).length = out.length + 1 by simp] at H9)
      go_roundg (L.length - (i + 1))
      case measure => omega
      case rel => exact ⟨i + 1, out ++ [(⟨x.pa, x.ca, x.t⟩ : TT)], by go_num, hlt, Nat.le_refl _, VN, by rw [List.length_append, HO.out]; rfl, H9, B6.trans B9⟩
    · have hltz : ¬ (i : Int) < (L.length : Int) := by omega
      have RES := Lib.hid (show out.map (·.t) = L.map (·.t) by rw [V.out, List.take_of_length_le (by omega)])
      have RT : IsTupsF wr w.heap.size (.slice p5 out.length c5) out := fun w' hw => (H5.agree hw fun _ hk => Nat.lt_of_lt_of_le hk B3.size).tups (by omega)
      go_wp2
      go_ret
      exact ⟨_, rfl, out, RT, Lib.hid ⟨al, HC.out, by rw [RES.out, HL.out]⟩, by rw [HO.out]; omega, B3.trans (B.mono B3.size)⟩
/-! ### two slices -/
section
variable {α : Type} {k bytes : Nat} {t e : TypeId} {z : Value} {enc : α → List Value} {wr w w' : World} {base : Nat} {v x : Value} {l m : List α}
theorem run_own (ty : TypeId) (hF : Fits t e k bytes z) (hE : Encs k enc) (hO : Owns k e enc wr base v l) (hb : Below wr.heap.size wr w) (hm : IsRows k enc w x m) (hbase : base ≤ wr.heap.size) (hL : l.length ≤ 1000000) (hM : m.length ≤ 1000000) :
    ∃ p c w', (Builtin.append_ #[t, t] ty #[v, x]).run Tryd.prog w = .ok (.slice p (l ++ m).length c) w' ∧ Owns k e enc w' base (.slice p (l ++ m).length c) (l ++ m) ∧ Below base wr w' ∧ w.grownBy w' v.ownBlock ∧ ((Value.slice p (l ++ m).length c).ownBlock = v.ownBlock ∨ (Value.slice p (l ++ m).length c).ownBlock = some w.heap.size) := by
  obtain ⟨i0, hi, hz0, hz1, hz2⟩ := info_parts' hF.info
  have hown : w.ownsRow base e k v l.length (l.flatMap enc) := own_keep hO hb
  have h1 : (l.length + m.length) * bytes ≤ 140737488355328 := Nat.le_trans (Nat.mul_le_mul (show l.length + m.length ≤ 2000000 by omega) hF.small) (by omega)
  obtain ⟨v', w', hr, hown', hg, hmv⟩ := run_append_rows enc t ty base e i0 _ k bytes hF.und hi hz0 hz1 hz2 hF.zs hF.pos v l.length _ hown x m hm (fun y _ => hE.len y) (fun y _ => hE.one y) (by unfold maxLen; omega) h1 (by have := hb.size; omega)
  have h2 : Owns k e enc w' base v' (l ++ m) := by unfold Owns; rw [List.length_append, List.flatMap_append]; exact hown'
  obtain ⟨p, c, rfl⟩ := h2.form
  exact ⟨p, c, w', hr, h2, below_own hO hb hg hbase, hg, hmv⟩
theorem wp_own {o : Oper} {a : Act} {K : Act → World → Prop} {Q : Exit → Act → World → Prop} (hF : Fits t e k bytes z) (hE : Encs k enc) (s y : Operand) (ho : o.op = .call { callee := .builtin .append, args := #[s, y], argTypes := #[t, t] })
    (hs : a.eval s = v) (hy : a.eval y = x) (hO : Owns k e enc wr base v l) (hb : Below wr.heap.size wr w) (hm : IsRows k enc w x m) (hbase : base ≤ wr.heap.size) (hL : l.length ≤ 1000000) (hM : m.length ≤ 1000000)
    (h : ∀ p c w', Owns k e enc w' base (.slice p (l ++ m).length c) (l ++ m) → Below base wr w' → w.grownBy w' v.ownBlock → ((Value.slice p (l ++ m).length c).ownBlock = v.ownBlock ∨ (Value.slice p (l ++ m).length c).ownBlock = some w.heap.size) → K (a.put o.dst (.slice p (l ++ m).length c)) w') : o.wp Tryd.prog a w K Q := by
  obtain ⟨p, c, w', hr, h2, h3, h4, h5⟩ := run_own o.type hF hE hO hb hm hbase hL hM
  unfold Oper.wp execOp
  simp only [ho, resolve, invoke, builtin, Sem.run_bind, Sem.run_pure, Result.andThen_ok, List.map_toArray, List.map_cons, List.map_nil, hs, hy, hr]
  exact h p c w' h2 h3 h4 h5
theorem wpList_own {ops : Array Oper} {rest : List Oper} {o : Oper} {a : Act} {Q : Exit → Act → World → Prop} (hF : Fits t e k bytes z) (hE : Encs k enc) (hgd : o.guard = none) (s y : Operand) (ho : o.op = .call { callee := .builtin .append, args := #[s, y], argTypes := #[t, t] })
    (hs : a.eval s = v) (hy : a.eval y = x) (hO : Owns k e enc wr base v l) (hb : Below wr.heap.size wr w) (hm : IsRows k enc w x m) (hbase : base ≤ wr.heap.size) (hL : l.length ≤ 1000000) (hM : m.length ≤ 1000000)
    (h : ∀ p c w', Owns k e enc w' base (.slice p (l ++ m).length c) (l ++ m) → Below base wr w' → w.grownBy w' v.ownBlock → ((Value.slice p (l ++ m).length c).ownBlock = v.ownBlock ∨ (Value.slice p (l ++ m).length c).ownBlock = some w.heap.size) → wpList Tryd.prog ops Q rest (a.put o.dst (.slice p (l ++ m).length c)) w') : wpList Tryd.prog ops Q (o :: rest) a w :=
  wpList_plain hgd fun _ hK => wp_own hF hE s y ho hs hy hO hb hm hbase hL hM fun p c w' h1 h2 h3 h4 => hK _ _ (h p c w' h1 h2 h3 h4)
theorem step_own {ops : Array Oper} {o : Oper} {a : Act} {K : Act → World → Prop} {Q : Exit → Act → World → Prop} {E : Prop} (hF : Fits t e k bytes z) (hE : Encs k enc) (hw : Region.wanted o (yielded ops a.tmps) = true) (s y : Operand) (ho : o.op = .call { callee := .builtin .append, args := #[s, y], argTypes := #[t, t] })
    (hs : a.eval s = v) (hy : a.eval y = x) (hO : Owns k e enc wr base v l) (hb : Below wr.heap.size wr w) (hm : IsRows k enc w x m) (hbase : base ≤ wr.heap.size) (hL : l.length ≤ 1000000) (hM : m.length ≤ 1000000)
    (h : ∀ p c w', Owns k e enc w' base (.slice p (l ++ m).length c) (l ++ m) → Below base wr w' → w.grownBy w' v.ownBlock → ((Value.slice p (l ++ m).length c).ownBlock = v.ownBlock ∨ (Value.slice p (l ++ m).length c).ownBlock = some w.heap.size) → K (a.put o.dst (.slice p (l ++ m).length c)) w') : if Region.wanted o (yielded ops a.tmps) = true then Oper.wp Tryd.prog o a w K Q else E := by
  rw [if_pos hw]
  exact wp_own hF hE s y ho hs hy hO hb hm hbase hL hM h
end
def Both (u v : Value) : Nat → Prop := fun k => u.ownBlock = some k ∨ v.ownBlock = some k
section
variable {α β γ : Type} {ka kb : Nat} {ea eb : TypeId} {enca : α → List Value} {encb : β → List Value} {oka : World → α → Prop} {okb : World → β → Prop} {okc : World → γ → Prop}
/-- Two slices in blocks of their own, and their elements apart from both. -/
structure Twin (ka : Nat) (ea : TypeId) (enca : α → List Value) (oka : World → α → Prop) (kb : Nat) (eb : TypeId) (encb : β → List Value) (okb : World → β → Prop) (w : World) (b1 : Nat) (u : Value) (A : List α) (b2 : Nat) (v : Value) (L : List β) : Prop where
  ou : Owns ka ea enca w b1 u A
  ov : Owns kb eb encb w b2 v L
  dis : ∀ k, u.ownBlock = some k → v.ownBlock ≠ some k
  eu : ∀ x ∈ A, Off oka w (Both u v) x
  ev : ∀ x ∈ L, Off okb w (Both u v) x
variable {w w' wm : World} {b1 b2 : Nat} {u v u' v' : Value} {A m : List α} {L n : List β} {c : γ}
theorem Twin.swap (T : Twin ka ea enca oka kb eb encb okb w b1 u A b2 v L) : Twin kb eb encb okb ka ea enca oka w b2 v L b1 u A :=
  ⟨T.ov, T.ou, fun k h1 h2 => T.dis k h2 h1, fun x hx w' hw => T.ev x hx w' (hw.mono fun _ h => h.symm), fun x hx w' hw => T.eu x hx w' (hw.mono fun _ h => h.symm)⟩
theorem Twin.keep (T : Twin ka ea enca oka kb eb encb okb w b1 u A b2 v L) (hb : Below w.heap.size w w') : Twin ka ea enca oka kb eb encb okb w' b1 u A b2 v L := ⟨T.ou.keep hb, T.ov.keep hb, T.dis, fun x hx => (T.eu x hx).keep hb, fun x hx => (T.ev x hx).keep hb⟩
theorem Twin.start (H : Hold ka ea enca oka noB w b1 u A) : Twin ka ea enca oka kb eb encb okb w b1 u A b2 (.slice none 0 0) [] :=
  ⟨H.1, Owns.nil _ _, fun k _ h => (by cases h), fun x hx w' hw => H.2 x hx w' (hw.mono fun k h => .inl (h.resolve_right fun q => by cases q)), by simp⟩
theorem Twin.hold (T : Twin ka ea enca oka kb eb encb okb w b1 u A b2 v L) : Hold ka ea enca oka noB w b1 u A := ⟨T.ou, fun x hx w' hw => T.eu x hx w' (hw.mono fun _ h => .inl (h.resolve_right fun q => q.elim))⟩
theorem both_grown (hg : wm.grownBy w' u.ownBlock) : Agree (Both u v) wm w' := .of_grown hg fun _ hk => .inl hk
theorem both_next (hu : u'.ownBlock = u.ownBlock ∨ u'.ownBlock = some wm.heap.size) : ∀ k, Both u' v k → Both u v k ∨ wm.heap.size ≤ k := fun k hk => by
  rcases hk with hk | hk
  · rcases hu with h | h
    · exact .inl (.inl (by rw [← h]; exact hk))
    · rw [h] at hk; injection hk with hk; exact .inr (by omega)
  · exact .inl (.inr hk)
/-- The first slice grows. -/
theorem Twin.push (hka : ∀ x, ∀ w w' : World, Below w.heap.size w w' → oka w x → oka w' x) (hkb : ∀ x, ∀ w w' : World, Below w.heap.size w w' → okb w x → okb w' x) (T : Twin ka ea enca oka kb eb encb okb w b1 u A b2 v L) (hb : Below w.heap.size w wm) (hO : Owns ka ea enca w' b1 u' (A ++ m)) (hg : wm.grownBy w' u.ownBlock) (hu : u'.ownBlock = u.ownBlock ∨ u'.ownBlock = some wm.heap.size) (hm : ∀ x ∈ m, Off oka wm (Both u v) x) : Twin ka ea enca oka kb eb encb okb w' b1 u' (A ++ m) b2 v L := by
  have Tm := T.keep hb
  refine ⟨hO, Tm.ov.kept hg ?_, fun k h1 h2 => ?_, fun x hx => ?_, fun x hx => ?_⟩
  · cases h : v.ownBlock with
    | none => exact .inl rfl
    | some g => exact .inr fun e => T.dis g e.symm h
  · rcases hu with h | h
    · exact T.dis k (by rw [← h]; exact h1) h2
    · rw [h] at h1; injection h1 with h1
      have := (Tm.ov.lt k h2).2
      omega
  · have hx2 : Off oka wm (Both u v) x := by
      rcases List.mem_append.1 hx with h | h
      · exact Tm.eu x h
      · exact hm x h
    exact Off.next (hka x) hx2 (both_grown hg) (both_next hu)
  · exact Off.next (hkb x) (Tm.ev x hx) (both_grown hg) (both_next hu)
/-- .. and what lies apart from both goes on so. -/
theorem Twin.off (hk : ∀ w w' : World, Below w.heap.size w w' → okc w c → okc w' c) (h : Off okc wm (Both u v) c) (hg : wm.grownBy w' u.ownBlock) (hu : u'.ownBlock = u.ownBlock ∨ u'.ownBlock = some wm.heap.size) : Off okc w' (Both u' v) c := Off.next hk h (both_grown hg) (both_next hu)
end
end Go.Proofs.YtdibijhaiaiifaaDoor
/- The walks of in, kept, One. -/
namespace Go.Proofs.YtdibijhaiaiifaaDoor
open Go.RowKit
theorem mem_tups {l : List TT} {t : Tp} : t ∈ tups l ↔ ∃ x ∈ l, x.t = t := by simp [tups]
set_option maxHeartbeats 1000000 in
theorem in_any (va vt : Value) (l : List TT) (t : Tp) (w : World) (ha : IsTups w va l) (ht : IsVals w vt t) : Calls Tryd.prog 96 #[va, vt] w fun e w' => e = .returned (.bool (decide (t ∈ tups l))) ∧ Below w.heap.size w w' := by
  obtain ⟨r, hr⟩ : ∃ r, decide (t ∈ tups l) = r := ⟨_, rfl⟩
  rw [hr]
  have HR := Lib.hid hr
  clear hr
  obtain ⟨pa, ca, rfl, hma⟩ := ha.shape
  obtain ⟨pt, ct, rfl, -⟩ := id ht
  go_enter Tryd.func96, Tryd.ntmps96
  go_wp2
  go_loopg [5] l.length (fun g vi wr => ∃ i : Nat, vi = .int .i64 i ∧ i ≤ l.length ∧ l.length - i ≤ g ∧ Hid (∀ x ∈ l.take i, x.t ≠ t) ∧ Below w.heap.size w wr)
  case atStart => exact ⟨0, rfl, Nat.zero_le _, Nat.le_refl _, Lib.hid (by simp), Below.refl _ _⟩
  case round =>
    obtain ⟨i, rfl, hi, hg, V, B⟩ := hrel
    by_cases hlt : i < l.length
    · have hltz : (i : Int) < (l.length : Int) := by omega
      obtain ⟨x, hx⟩ := getElem_of_lt hlt
      obtain ⟨b, off, e, c0, rx⟩ := (ha.keep B).at_ hx
      cases e
      have HX := Lib.hid hx
      clear hx
      go_wp2_with fail
      refine (rCompareTuple_any _ _ x.t t _ rx (ht.keep B)).mono ?_
      rintro e w1 ⟨rfl, g1⟩
      have B2 := B.trans (g1.below.mono B.size)
      clear g1 rx c0
      obtain ⟨z, hz⟩ : ∃ z, cmpT x.t t = z := ⟨_, rfl⟩
      rw [hz]
      by_cases h0 : z = 0
      · subst h0
        have RES := Lib.hid (show r = true by rw [← HR.out]; exact decide_eq_true (mem_tups.2 ⟨x, List.mem_of_getElem? HX.out, (cmpT_is.eq _ _).1 hz⟩))
        clear hz
        go_wp2
        go_ret
        exact ⟨by rw [RES.out]; rfl, B2⟩
      · have VN := Lib.hid (show ∀ x ∈ l.take (i + 1), x.t ≠ t from fun y hy => by
          rw [take_succ' HX.out] at hy
          rcases List.mem_append.1 hy with hy | hy
          · exact V.out y hy
          · rw [List.mem_singleton.1 hy]; exact fun e => h0 (by rw [← hz]; exact (cmpT_is.eq _ _).2 e))
        have hzb : (z == 0) = false := by rw [beq_eq_false_iff_ne]; exact h0
        clear hz
        go_wp2
        go_roundg (l.length - (i + 1))
        case measure => omega
        case rel => exact ⟨i + 1, by go_num, hlt, Nat.le_refl _, VN, B2⟩
    · have hltz : ¬ (i : Int) < (l.length : Int) := by omega
      have RES := Lib.hid (show r = false by
        rw [← HR.out]
        refine decide_eq_false fun h => ?_
        obtain ⟨x, hx, e⟩ := mem_tups.1 h
        exact V.out x (by rw [List.take_of_length_le (by omega)]; exact hx) e)
      go_wp2
      go_ret
      exact ⟨by rw [RES.out]; rfl, B⟩
theorem Hold.offT {w w' : World} {m : List TT} {v : Value} {out : List TT} {wr : World} {base : Nat} (H : Hold 1 25 encTT TupOk noB wr base v out) (hr : ∀ r ∈ m, TupOk w r) (hb : Below w.heap.size w w') (hw : base = w.heap.size) : ∀ u ∈ m, Off TupOk w' (Ex v noB) u := fun u hu => by
  refine Off.old (w := w) (fun a b => tupOk_keep a b _) (hr u hu) hb fun k hk => ?_
  rcases hk with hk | hk
  · rw [← hw]; exact (H.1.lt k hk).1
  · exact hk.elim
set_option maxHeartbeats 1000000 in
theorem kept_any (va vb : Value) (a b : List TT) (want : Bool) (w : World) (ha : IsTups w va a) (hb : IsTups w vb b) (hal : a.length ≤ 100000) : Calls Tryd.prog 45 #[va, vb, .bool want] w fun e w' => ∃ p c, ∃ ts : List TT, e = .returned (.slice p ts.length c) ∧ IsTups w' (.slice p ts.length c) ts ∧ Hid (tups ts = keptL (tups a) (tups b) want) ∧ ts.length ≤ a.length ∧ Below w.heap.size w w' := by
  obtain ⟨pa, ca, rfl, hma⟩ := ha.shape
  go_enter Tryd.func45, Tryd.ntmps45
  go_wp2
  go_loopg [7, 8] a.length (fun g v7 vi wr => ∃ (i : Nat) (out : List TT), vi = .int .i64 i ∧ i ≤ a.length ∧ a.length - i ≤ g ∧ Hid (tups out = keptL (tups (a.take i)) (tups b) want) ∧ Hid (out.length ≤ i) ∧ Hold 1 25 encTT TupOk noB wr w.heap.size v7 out ∧ Below w.heap.size w wr)
  case atStart => exact ⟨0, [], rfl, Nat.zero_le _, Nat.le_refl _, Lib.hid (by simp [tups, keptL]), Lib.hid (by simp), Hold.nil _ _, Below.refl _ _⟩
  case round =>
    obtain ⟨i, out, rfl, hi, hg, V, VL, H7, B⟩ := hrel
    obtain ⟨p7, c7, rfl⟩ := H7.form
    have hol : out.length ≤ 100000 := by have := VL.out; omega
    by_cases hlt : i < a.length
    · have hltz : (i : Int) < (a.length : Int) := by omega
      obtain ⟨x, hx⟩ := getElem_of_lt hlt
      obtain ⟨bb, off, e, c0, rx⟩ := (ha.keep B).at_ hx
      cases e
      have rx0 := ha.2 x (List.mem_of_getElem? hx)
      have HX := Lib.hid hx
      clear hx
      go_wp2_with fail
      refine (in_any _ _ b x.t _ (hb.keep B) rx).mono ?_
      rintro e w1 ⟨rfl, B1⟩
      replace H7 := H7.keep B1
      replace c0 := cell_keep B1 c0
      replace B := B.trans (B1.mono B.size)
      clear rx B1
      obtain ⟨q, hq⟩ : ∃ q, decide (x.t ∈ tups b) = q := ⟨_, rfl⟩
      rw [hq]
      have HT := Lib.hid (show keptL (tups (a.take (i + 1))) (tups b) want = tups out ++ (if decide (q = want) = true then [x.t] else []) by
        rw [take_succ' HX.out, V.out]
        unfold keptL tups
        rw [List.map_append, List.filter_append, List.map_cons, List.map_nil, List.filter_cons]
        unfold tups at hq
        rw [hq]; rfl)
      clear hq
      by_cases hw : q = want
      · subst hw
        have hqq : (q == q) = true := by cases q <;> rfl
        have VN := Lib.hid (show tups (out ++ [x]) = keptL (tups (a.take (i + 1))) (tups b) q by rw [HT.out]; simp [tups])
        have VM := Lib.hid (show (out ++ [x]).length ≤ i + 1 by have := VL.out; simp; omega)
        have bX := below_new w1 (.cells #[x.v] 25)
        have hm : IsRows 1 encTT (w1.alloc (.cells #[x.v] 25)) (.slice (some ⟨w1.heap.size, 0, none⟩) 1 1) [x] := IsRows.lit w1 [x] encsT (by simp)
        have hmo := Hold.offT (m := [x]) H7 (fun r hr => by rw [List.mem_singleton.1 hr]; exact rx0) (B.trans (bX.mono B.size)) rfl
        go_wp2_with (at_builtin; refine wpList_hold fitsT encsT rfl _ _ rfl rfl rfl H7 bX hm hmo B.size (by omega) (by simp) ?_; intro p9 c9 w9 H9 B9 hG9; rw [List.length_append] at H9)
        go_roundg (a.length - (i + 1))
        case measure => omega
        case rel => exact ⟨i + 1, _, by go_num, hlt, Nat.le_refl _, VN, VM, H9, B.trans B9⟩
      · have hqq : (q == want) = false := by rw [beq_eq_false_iff_ne]; exact hw
        have VN := Lib.hid (show tups out = keptL (tups (a.take (i + 1))) (tups b) want by rw [HT.out, decide_eq_false hw]; simp)
        have VM := Lib.hid (show out.length ≤ i + 1 by have := VL.out; omega)
        clear hw
        go_wp2
        go_roundg (a.length - (i + 1))
        case measure => omega
        case rel => exact ⟨i + 1, out, by go_num, hlt, Nat.le_refl _, VN, VM, H7, B⟩
    · have hltz : ¬ (i : Int) < (a.length : Int) := by omega
      have RES := Lib.hid (show tups out = keptL (tups a) (tups b) want by have := V.out; rwa [List.take_of_length_le (by omega)] at this)
      have RT := H7.tups (by omega)
      have hle : out.length ≤ a.length := by have := VL.out; omega
      go_wp2
      go_ret
      exact ⟨_, _, out, rfl, RT, RES, hle, B⟩
theorem One_any (m : Int) (hm : 0 ≤ m ∧ m < 100) (w : World) : Calls Tryd.prog 47 #[.int .i64 m] w fun e w' => e = .returned (.slice (some ⟨w.heap.size, 0, none⟩) 1 1) ∧ w' = w.alloc (.cells #[.int .i64 m, .int .i64 (m + 1)] 86) := by
  go_enter Tryd.func47, Tryd.ntmps47
  go_wp2
  go_ret
  exact ⟨rfl, rfl⟩
end Go.Proofs.YtdibijhaiaiifaaDoor
