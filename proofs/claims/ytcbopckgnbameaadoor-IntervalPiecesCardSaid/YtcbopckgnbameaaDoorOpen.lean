/- How the rows' arguments read: a slice of spans as a list; the library's table as the row lists it. -/
import Derived.Test.YtcbopckgnbameaaDoorCards
import Derived.Test.YtcbopckgnbameaaDoorTie
import Derived.Test.YtcbopckgnbameaaDoorMem
import Derived.Test.YtcbopckgnbameaaDoorBytes
import Derived.ProofKit
import Derived.OpenShut
import Derived.ShutString
import Derived.ChangeOld
import Derived.Below
import Derived.ChangeSame
import Derived.Deep.Slices
import Derived.Deep.Fields
import Derived.Deep.DeepHandedRow
import Derived.Lib.LaidTab
namespace Go.Proofs.YtcbopckgnbameaaDoor
open Go.ChangeShapes Go.WideShapes Go.ChangeAt Go.RowKit Go.Deep
section
variable {H : Type} {enc : TypeId × Value → H} {P : Program} {w : World} {base : Nat} {spare : Nat → Bool} {held : Bool}
theorem open_slice_fields {t e : TypeId} {fs : Array Field} {fuel : Nat} {cs : List Value} {x : DataW H × List MemPlace} (ht : P.underlying t = some (.slice e)) (he : P.underlying e = some (.struct fs))
    (hone : oneCellFields P fs = true) (hC : P.cellsOf e = fs.size) (h : DataW.trod enc P w base spare held fuel t cs = some x) :
    (cs = [.slice none 0 0] ∧ x = (.nil, [])) ∨
    ∃ (a : Addr) (len cap m : Nat) (D : Nat → DataW H) (Pl : Nat → List MemPlace), cs = [.slice (some a) len cap] ∧ base ≤ a.block ∧ len ≤ cap ∧ cap ≤ maxLen ∧ m = (if spare a.block then cap else len) ∧
      x = (.slice ((List.range len).map D) ((List.range (m - len)).map fun j => D (len + j)), MemPlace.row a (m * fs.size) ++ (List.range m).flatMap Pl) ∧
      ∀ i, i < m → ∃ (ys : List (DataW H × List MemPlace)) (n : Nat), D i = .agg (ys.map (·.1)) ∧ Pl i = ys.flatMap (·.2) ∧ ys.length = fs.size ∧
        ∀ (j : Nat) (f : Field), fs[j]? = some f → ∃ (v : Value) (y : DataW H × List MemPlace), w.cell? (a.add (i * fs.size + j)) = some v ∧ ys[j]? = some y ∧ DataW.trod enc P w base spare held n f.type [v] = some y := by
  rcases open_slice ht h with h0 | ⟨a, len, cap, m, n, D, Pl, hcs, hb, hl, hm, hmm, hx, hi⟩
  · exact .inl h0
  · refine .inr ⟨a, len, cap, m, D, Pl, hcs, hb, hl, hm, hmm, by rw [hC] at hx; exact hx, fun i him => ?_⟩
    obtain ⟨cs', hc, ht'⟩ := hi i him
    rw [hC] at hc
    obtain ⟨ys, n', hn', hy, hlen, hyl, hf⟩ := DataW.trod_struct he ht'
    obtain ⟨_, hcl, hat⟩ := World.cells?_some hc
    simp only [Prod.mk.injEq] at hy
    refine ⟨ys, n', hy.1, hy.2, hyl, fun j f hj => ?_⟩
    obtain ⟨ho, hk⟩ := hone_of hone j f hj
    have hjl : j < fs.size := (Array.getElem?_eq_some_iff.1 hj).1
    have hcell := hat j hjl
    have hv : cs'[j]? = some (cs'[j]'(by omega)) := List.getElem?_eq_getElem (by omega)
    have h1 := hf j f hj
    rw [ho, hk] at h1
    have hone' : (cs'.drop j).take 1 = [cs'[j]'(by omega)] := by
      rw [List.drop_eq_getElem_cons (by omega)]
      rfl
    rw [hone'] at h1
    have hys : ys[j]? = some (ys[j]'(by omega)) := List.getElem?_eq_getElem (by omega)
    refine ⟨_, _, ?_, hys, h1.trans hys⟩
    rw [← Go.Deep.add_add, hcell, hv]
end
theorem own : ownKnob Tryd.prog.godebug = none := by kernel_rfl
theorem laidOut : laidOutB Tryd.prog = true := by kernel_rfl
theorem gTab : Tryd.prog.globalNamed "math/bits.deBruijn64tab" = some 0 := by kernel_rfl
theorem gTabType : (Tryd.prog.globals[0]?).map (·.type) = some 52 := by kernel_rfl
theorem cells52 : Tryd.prog.cellsOf 52 = 64 := by kernel_rfl
theorem cells5 : Tryd.prog.cellsOf 5 = 1 := by kernel_rfl
theorem cells32 : Tryd.prog.cellsOf 32 = 2 := by kernel_rfl
def tabInts : List Int := [0, 1, 56, 2, 57, 49, 28, 3, 61, 58, 42, 50, 38, 29, 17, 4, 62, 47, 59, 36, 45, 43, 51, 22, 53, 39, 33, 30, 24, 18, 12, 5, 63, 55, 48, 27, 60, 41, 37, 16, 46, 35, 44, 21, 52, 32, 23, 11, 54, 26, 40, 15, 34, 20, 31, 10, 25, 14, 19, 9, 13, 8, 7, 6]
def theLaid : List (String × DataW Unit) := [("math/bits.deBruijn64tab", Rows.laid_math_bits_deBruijn64tab)]
theorem tab_at : ∀ j, j < 64 → tabInts.getD j 0 = ((Lib.deBruijn64tab.getD j 0 : Nat) : Int) := by decide +kernel
theorem tab_of_laid {W : World} (h : laidMetH Tryd.prog theLaid W) : Tab W := by
  have ht : Lib.TabIs Tryd.prog W "math/bits.deBruijn64tab" .u8 tabInts := Lib.tabIs_of_head (rest := []) gTab gTabType Tryd.underlying52 Tryd.underlying5 cells5 cells52 h
  intro j hj
  have := ht.cell gTab j hj
  rw [tab_at j hj] at this
  exact this
/-- An argument of type []api.Span reads as some list. -/
theorem spans_of_read {H : Type} {enc : TypeId × Value → H} {W : World} {base : Nat} {v : Value} {d : DataW H} {p : List MemPlace} (hv : Value.okWide Tryd.prog W .any base 22 v)
    (h : DataW.Trod enc Tryd.prog W 0 (fun _ => true) true 22 v d p) : ∃ l, IsSpans W v l := by
  obtain ⟨a0, len0, cap0, rfl⟩ := okWide_slice Tryd.underlying22 hv
  obtain ⟨fuel, hf⟩ := h
  obtain ⟨fs, hfs⟩ : ∃ fs, Tryd.prog.underlying 32 = some (.struct fs) := ⟨_, Tryd.underlying32⟩
  have hfs' := hfs
  rw [Tryd.underlying32] at hfs'
  obtain rfl : _ = fs := TypeDesc.struct.inj (Option.some.inj hfs')
  rcases open_slice_fields Tryd.underlying22 hfs (by kernel_rfl) (by kernel_rfl) hf with ⟨hcs, _⟩ | ⟨a, len, cap, m, D, Pl, hcs, _, hl, hm, hmm, _, hi⟩
  · simp [Value.cells] at hcs
    obtain ⟨rfl, rfl, rfl⟩ := hcs
    exact ⟨[], none, 0, rfl, .inl rfl, by simp⟩
  · simp [Value.cells] at hcs
    obtain ⟨rfl, rfl, rfl⟩ := hcs
    simp only [if_true] at hmm
    obtain rfl : m = _ := hmm
    have key : ∀ i, i < m → ∃ s : Sp, W.cell? (a.add (i * 2 + 0)) = some (.int .i64 s.1) ∧ W.cell? (a.add (i * 2 + 1)) = some (.int .i64 s.2) := by
      intro i him
      obtain ⟨ys, n, _, _, _, hfld⟩ := hi i him
      obtain ⟨v0, y0, h0, _, t0⟩ := hfld 0 _ rfl
      obtain ⟨v1, y1, h1, _, t1⟩ := hfld 1 _ rfl
      obtain ⟨n0, e0, _, _⟩ := DataW.trod_int Tryd.underlying3 t0
      obtain ⟨n1, e1, _, _⟩ := DataW.trod_int Tryd.underlying3 t1
      simp at e0 e1
      subst e0; subst e1
      exact ⟨(n0, n1), h0, h1⟩
    have hlm : len0 ≤ 9223372036854775807 := by unfold maxLen at hm; omega
    let f : Nat → Sp := fun i => if h : i < m then Classical.choose (key i h) else (0, 0)
    refine ⟨(List.range len0).map f, some a, m, by simp, ?_, by simpa using hlm⟩
    rcases Nat.eq_zero_or_pos len0 with h0 | h0
    · left; subst h0; rfl
    · obtain ⟨b, off, spot⟩ := a
      have hsp : spot = none := by
        obtain ⟨s, hs, _⟩ := key 0 (by omega)
        simpa [Addr.add] using World.cell?_spot hs
      subst hsp
      refine .inr ⟨b, off, rfl, fun i hil => ?_⟩
      have hil' : i < len0 := by simpa using hil
      have hic : i < m := by omega
      obtain ⟨k1, k2⟩ := Classical.choose_spec (key i hic)
      have hg : ((List.range len0).map f).getD i (0, 0) = Classical.choose (key i hic) := by
        simp [List.getD_eq_getElem?_getD, hil', f, hic]
      rw [hg]
      have e1 : (⟨b, off, none⟩ : Addr).add (i * 2 + 0) = ⟨b, off + i * 2, none⟩ := by
        unfold Addr.add
        split
        · rename_i h; have : i = 0 := by omega
          subst this; simp
        · simp
      have e2 : (⟨b, off, none⟩ : Addr).add (i * 2 + 1) = ⟨b, off + i * 2 + 1, none⟩ := by
        unfold Addr.add
        rw [if_neg (by omega)]; simp [Nat.add_assoc]
      exact ⟨e1 ▸ k1, e2 ▸ k2⟩
/-- An argument of type []uint8 reads as some bytes. -/
theorem bytes_of_read {H : Type} {enc : TypeId × Value → H} {W : World} {base : Nat} {v : Value} {d : DataW H} {p : List MemPlace} (hv : Value.okWide Tryd.prog W .any base 34 v)
    (h : DataW.Trod enc Tryd.prog W 0 (fun _ => true) true 34 v d p) : ∃ l, IsBytes W v l := by
  obtain ⟨a0, len0, cap0, rfl⟩ := okWide_slice Tryd.underlying34 hv
  obtain ⟨fuel, hf⟩ := h
  rcases open_ints Tryd.underlying34 Tryd.underlying5 (by kernel_rfl) hf with ⟨hcs, _⟩ | ⟨x, l, c, zs, hcs, _, hl, hm, hz, _, hcell, hwz⟩
  · simp [Value.cells] at hcs
    obtain ⟨rfl, rfl, rfl⟩ := hcs
    exact ⟨[], none, 0, rfl, .inl rfl, by simp, by simp⟩
  · simp [Value.cells] at hcs
    obtain ⟨rfl, rfl, rfl⟩ := hcs
    have hz' := hz
    simp only [if_true] at hz'
    have hw : ∀ i, i < zs.length → 0 ≤ zs.getD i 0 ∧ zs.getD i 0 < 256 := by
      intro i hi
      have hmem : zs.getD i 0 ∈ zs := by
        have e : zs.getD i 0 = zs[i] := by simp [hi]
        rw [e]; exact List.getElem_mem hi
      have := hwz _ hmem
      generalize zs.getD i 0 = n at *
      simp [Lit.wf, IntKind.min, IntKind.max, IntKind.signed, IntKind.bits] at this
      omega
    have hlm : len0 ≤ 9223372036854775807 := by unfold maxLen at hm; omega
    refine ⟨(List.range len0).map fun i => (zs.getD i 0).toNat, some x, cap0, by simp, ?_, by simpa using hlm, fun i => ?_⟩
    · rcases Nat.eq_zero_or_pos len0 with h0 | h0
      · left; subst h0; rfl
      · obtain ⟨b, off, spot⟩ := x
        have hsp : spot = none := by
          have := hcell 0 (by omega)
          simpa [Addr.add] using World.cell?_spot this
        subst hsp
        refine .inr ⟨b, off, rfl, fun i hil => ?_⟩
        have hil' : i < len0 := by simpa using hil
        have h1 := hcell i (by omega)
        have h2 := (hw i (by omega)).1
        have e1 : (⟨b, off, none⟩ : Addr).add i = ⟨b, off + i, none⟩ := by
          unfold Addr.add
          split
          · rename_i h; subst h; simp
          · simp
        rw [e1] at h1
        rw [h1]
        have e2 : ((List.range len0).map fun i => (zs.getD i 0).toNat).getD i 0 = (zs.getD i 0).toNat := by simp [List.getD_eq_getElem?_getD, hil']
        rw [e2]
        congr 2
        omega
    · rcases Nat.lt_or_ge i len0 with hi | hi
      · have e2 : ((List.range len0).map fun i => (zs.getD i 0).toNat).getD i 0 = (zs.getD i 0).toNat := by simp [List.getD_eq_getElem?_getD, hi]
        rw [e2]
        have := hw i (by omega)
        omega
      · have e2 : ((List.range len0).map fun i => (zs.getD i 0).toNat).getD i 0 = 0 := by simp [List.getD_eq_getElem?_getD, hi]
        rw [e2]; omega
noncomputable def tabCells : Array Value := (tabInts.map fun z => Value.int .u8 z).toArray
end Go.Proofs.YtcbopckgnbameaaDoor
