/- How the rows' arguments read: names, numbers, terms, literals, rules, programs. -/
import Derived.Test.YtnibgmmoebmnlaaRows
import Derived.Test.YtnibgmmoebmnlaaWo
import Derived.ProofKit
import Derived.OpenShut
import Derived.ShutString
import Derived.ChangeOld
import Derived.Below
import Derived.ChangeSame
import Derived.Deep.Slices
import Derived.Deep.Fields
namespace Go.Proofs.Ytnibgmmoebmnlaa
open Go.ChangeShapes Go.WideShapes Go.ChangeAt Go.RowKit Go.Deep
theorem own : ownKnob Try.prog.godebug = none := by kernel_rfl
theorem laidOut : laidOutB Try.prog = true := by kernel_rfl
section
variable {H : Type} {enc : TypeId × Value → H} {W : World}
/-- Whatever reads as type t: its cells. -/
abbrev Rd (enc : TypeId × Value → H) (W : World) (n : Nat) (t : TypeId) (cs : List Value) : Prop := ∃ y, DataW.trod enc Try.prog W 0 (fun _ => true) true n t cs = some y
theorem rd_int {n : Nat} {t : TypeId} {cs : List Value} (ht : Try.prog.underlying t = some (.int .i64)) (h : Rd enc W n t cs) : ∃ z, cs = [.int .i64 z] := by
  obtain ⟨y, h⟩ := h
  obtain ⟨z, e, _⟩ := DataW.trod_int ht h
  exact ⟨z, e⟩
theorem rd_u8 {n : Nat} {t : TypeId} {cs : List Value} (ht : Try.prog.underlying t = some (.int .u8)) (h : Rd enc W n t cs) : ∃ z : Int, cs = [.int .u8 z] ∧ 0 ≤ z ∧ z < 256 := by
  obtain ⟨y, h⟩ := h
  obtain ⟨z, e, _, hw⟩ := DataW.trod_int ht h
  simp [Lit.wf, IntKind.min, IntKind.max, IntKind.signed, IntKind.bits] at hw
  exact ⟨z, e, by omega, by omega⟩
theorem rd_name {n : Nat} {cs : List Value} (h : Rd enc W n 9 cs) : ∃ x : Nm, cs = [.string x.1] := by
  obtain ⟨y, h⟩ := h
  obtain ⟨z, e, _, hs⟩ := DataW.trod_string Try.underlying9 h
  exact ⟨⟨z, hs⟩, e⟩
theorem rd_field {n : Nat} {t : TypeId} {cs : List Value} {fs : Array Field} (ht : Try.prog.underlying t = some (.struct fs)) (h : Rd enc W n t cs) :
    cs.length = Try.prog.cellsOf t ∧ ∃ m, ∀ (i : Nat) (f : Field), fs[i]? = some f → Rd enc W m f.type ((cs.drop f.offset).take (Try.prog.cellsOf f.type)) := by
  obtain ⟨y, h⟩ := h
  obtain ⟨xs, m, _, _, hl, hxl, hf⟩ := DataW.trod_struct ht h
  refine ⟨hl, m, fun i f hi => ?_⟩
  have := hf i f hi
  have hlt : i < xs.length := by rw [hxl]; exact (Array.getElem?_eq_some_iff.1 hi).1
  exact ⟨xs[i], by rw [this]; exact List.getElem?_eq_getElem hlt⟩
/-- A slice whose elements read. -/
theorem rd_slice {α : Type} {n : Nat} {t e k : Nat} {cs : List Value} (en : α → List Value) (ok : α → Prop) (ht : Try.prog.underlying t = some (.slice e)) (hk : Try.prog.cellsOf e = k) (hk0 : 0 < k)
    (hel : ∀ m cs, Rd enc W m e cs → ∃ x, cs = en x ∧ ok x) (h : Rd enc W n t cs) : ∃ v l, cs = [v] ∧ IsRows k en W v l ∧ ∀ x ∈ l, ok x := by
  obtain ⟨y, h⟩ := h
  rcases open_slice ht h with ⟨hcs, _⟩ | ⟨a, len, cap, m, n', D, Pl, hcs, _, hl, hm, hmm, _, hi⟩
  · exact ⟨_, [], hcs, ⟨none, 0, rfl, .inl rfl, by simp⟩, by simp⟩
  · simp only [if_true] at hmm
    subst hmm
    rw [hk] at hi
    have key : ∀ i, i < len → ∃ x, ok x ∧ ∀ j u, (en x)[j]? = some u → W.cell? ((a.add (i * k)).add j) = some u := by
      intro i hil
      obtain ⟨cs', hc, ht'⟩ := hi i (by omega)
      obtain ⟨_, hcl, hat⟩ := World.cells?_some hc
      obtain ⟨x, hx, hox⟩ := hel _ _ ⟨_, ht'⟩
      refine ⟨x, hox, fun j u hj => ?_⟩
      rw [← hx] at hj
      have hjl : j < k := by have := (List.getElem?_eq_some_iff.1 hj).1; omega
      rw [hat j hjl, hj]
    have hlen : ∀ i, i < len → ∃ x, ok x ∧ (en x).length = k := by
      intro i hil
      obtain ⟨cs', hc, ht'⟩ := hi i (by omega)
      obtain ⟨_, hcl, hat⟩ := World.cells?_some hc
      obtain ⟨x, hx, hox⟩ := hel _ _ ⟨_, ht'⟩
      exact ⟨x, hox, by rw [← hx]; exact hcl⟩
    have hlm : len ≤ 9223372036854775807 := by unfold maxLen at hm; omega
    rcases Nat.eq_zero_or_pos len with h0 | h0
    · subst h0
      exact ⟨_, [], hcs, ⟨some a, m, rfl, .inl rfl, by simp⟩, by simp⟩
    · obtain ⟨x0, hox0, _⟩ := key 0 h0
      have key' : ∀ i, ∃ x, i < len → (ok x ∧ ∀ j u, (en x)[j]? = some u → W.cell? ((a.add (i * k)).add j) = some u) := by
        intro i
        by_cases h : i < len
        · obtain ⟨x, hx⟩ := key i h
          exact ⟨x, fun _ => hx⟩
        · exact ⟨x0, fun h' => absurd h' h⟩
      let f : Nat → α := fun i => Classical.choose (key' i)
      have hf : ∀ i, i < len → (ok (f i) ∧ ∀ j u, (en (f i))[j]? = some u → W.cell? ((a.add (i * k)).add j) = some u) := fun i => Classical.choose_spec (key' i)
      obtain ⟨b, off, spot⟩ := a
      have hsp : spot = none := by
        obtain ⟨cs', hc, ht'⟩ := hi 0 (by omega)
        obtain ⟨_, hcl, hat⟩ := World.cells?_some hc
        have h1 := hat 0 hk0
        rw [List.getElem?_eq_getElem (by omega)] at h1
        simpa [Addr.add] using World.cell?_spot h1
      subst hsp
      refine ⟨_, (List.range len).map f, hcs, ⟨some ⟨b, off, none⟩, m, by simp, .inr ⟨b, off, rfl, fun i x hix j u hj => ?_⟩, by simpa using hlm⟩, ?_⟩
      · rw [List.getElem?_map] at hix
        obtain ⟨i', hi', rfl⟩ := Option.map_eq_some_iff.1 hix
        have hlt : i < len := by have := (List.getElem?_eq_some_iff.1 hi').1; simpa using this
        rw [List.getElem?_range hlt] at hi'
        obtain rfl : i = i' := by simpa using hi'
        have := (hf i hlt).2 j u hj
        have e : ((⟨b, off, none⟩ : Addr).add (i * k)).add j = ⟨b, off + i * k + j, none⟩ := by
          rw [Go.Deep.add_add]
          unfold Addr.add
          split
          · rename_i h; simp at h; simp
          · simp [Nat.add_assoc]
        rwa [e] at this
      · intro x hx
        obtain ⟨i, hi', rfl⟩ := List.mem_map.1 hx
        exact (hf i (by simpa using hi')).1
theorem rd_names {n : Nat} {cs : List Value} (h : Rd enc W n 28 cs) : ∃ v l, cs = [v] ∧ IsNames W v l := by
  obtain ⟨v, l, e, hr, _⟩ := rd_slice (α := Nm) encS (fun _ => True) Try.underlying28 (show Try.prog.cellsOf 9 = 1 by kernel_rfl) (by decide) (fun m cs h => by
    obtain ⟨x, e⟩ := rd_name h
    exact ⟨x, e, trivial⟩) h
  exact ⟨v, l, e, hr⟩
theorem rd_ints {n : Nat} {cs : List Value} (h : Rd enc W n 29 cs) : ∃ v l, cs = [v] ∧ IsInts W v l := by
  obtain ⟨v, l, e, hr, _⟩ := rd_slice (α := Int) encI (fun _ => True) Try.underlying29 (show Try.prog.cellsOf 3 = 1 by kernel_rfl) (by decide) (fun m cs h => by
    obtain ⟨x, e⟩ := rd_int Try.underlying3 h
    exact ⟨x, e, trivial⟩) h
  exact ⟨v, l, e, hr⟩
theorem c3 : Try.prog.cellsOf 3 = 1 := by kernel_rfl
theorem c9 : Try.prog.cellsOf 9 = 1 := by kernel_rfl
theorem c22 : Try.prog.cellsOf 22 = 1 := by kernel_rfl
theorem c25 : Try.prog.cellsOf 25 = 1 := by kernel_rfl
theorem c67 : Try.prog.cellsOf 67 = 3 := by kernel_rfl
theorem c69 : Try.prog.cellsOf 69 = 4 := by kernel_rfl
theorem c58 : Try.prog.cellsOf 58 = 9 := by kernel_rfl
theorem c24 : Try.prog.cellsOf 24 = 4 := by kernel_rfl
theorem c27 : Try.prog.cellsOf 27 = 9 := by kernel_rfl
theorem len4 {cs : List Value} (h : cs.length = 4) : ∃ a b c d, cs = [a, b, c, d] := by
  match cs, h with
  | [a, b, c, d], _ => exact ⟨a, b, c, d, rfl⟩
theorem len3 {cs : List Value} (h : cs.length = 3) : ∃ a b c, cs = [a, b, c] := by
  match cs, h with
  | [a, b, c], _ => exact ⟨a, b, c, rfl⟩
theorem len9 {cs : List Value} (h : cs.length = 9) : ∃ a b c d e f g i j, cs = [a, b, c, d, e, f, g, i, j] := by
  match cs, h with
  | [a, b, c, d, e, f, g, i, j], _ => exact ⟨a, b, c, d, e, f, g, i, j, rfl⟩
theorem rd_value {n : Nat} {cs : List Value} (h : Rd enc W n 67 cs) : ∃ (ty : Int) (k : Int) (s : Nm), cs = [.int .i64 ty, .int .i64 k, .string s.1] := by
  obtain ⟨hl, m, hf⟩ := rd_field Try.underlying67 h
  have h0 : Rd enc W m 3 ((cs.drop 0).take (Try.prog.cellsOf 3)) := hf 0 _ rfl
  have h1 : Rd enc W m 3 ((cs.drop 1).take (Try.prog.cellsOf 3)) := hf 1 _ rfl
  have h2 : Rd enc W m 9 ((cs.drop 2).take (Try.prog.cellsOf 9)) := hf 2 _ rfl
  rw [c67] at hl
  obtain ⟨a, b, c, rfl⟩ := len3 hl
  rw [c3] at h0 h1
  rw [c9] at h2
  obtain ⟨x, e0⟩ := rd_int Try.underlying3 h0
  obtain ⟨y, e1⟩ := rd_int Try.underlying3 h1
  obtain ⟨z, e2⟩ := rd_name h2
  simp at e0 e1 e2
  exact ⟨x, y, z, by rw [e0, e1, e2]⟩
theorem rd_term {n : Nat} {cs : List Value} (h : Rd enc W n 69 cs) : ∃ t : Tm, cs = encT t := by
  obtain ⟨hl, m, hf⟩ := rd_field Try.underlying69 h
  have h0 : Rd enc W m 9 ((cs.drop 0).take (Try.prog.cellsOf 9)) := hf 0 _ rfl
  have h1 : Rd enc W m 67 ((cs.drop 1).take (Try.prog.cellsOf 67)) := hf 1 _ rfl
  rw [c69] at hl
  obtain ⟨a, b, c, d, rfl⟩ := len4 hl
  rw [c9] at h0
  rw [c67] at h1
  obtain ⟨x, e0⟩ := rd_name h0
  obtain ⟨y, z, u, e1⟩ := rd_value h1
  simp at e0 e1
  obtain ⟨e1, e2, e3⟩ := e1
  exact ⟨⟨x, y, z, u⟩, by rw [e0, e1, e2, e3]; rfl⟩
theorem rd_terms {n : Nat} {cs : List Value} (h : Rd enc W n 22 cs) : ∃ v l, cs = [v] ∧ IsTerms W v l := by
  obtain ⟨v, l, e, hr, _⟩ := rd_slice (α := Tm) encT (fun _ => True) Try.underlying22 c69 (by decide) (fun m cs h => by
    obtain ⟨x, e⟩ := rd_term h
    exact ⟨x, e, trivial⟩) h
  exact ⟨v, l, e, hr⟩
theorem rd_lit {n : Nat} {cs : List Value} (h : Rd enc W n 58 cs) : ∃ q : Lt, cs = encL q ∧ LitOk W q := by
  obtain ⟨hl, m, hf⟩ := rd_field Try.underlying58 h
  have h0 : Rd enc W m 3 ((cs.drop 0).take (Try.prog.cellsOf 3)) := hf 0 _ rfl
  have h1 : Rd enc W m 9 ((cs.drop 1).take (Try.prog.cellsOf 9)) := hf 1 _ rfl
  have h2 : Rd enc W m 3 ((cs.drop 2).take (Try.prog.cellsOf 3)) := hf 2 _ rfl
  have h3 : Rd enc W m 22 ((cs.drop 3).take (Try.prog.cellsOf 22)) := hf 3 _ rfl
  have h4 : Rd enc W m 9 ((cs.drop 4).take (Try.prog.cellsOf 9)) := hf 4 _ rfl
  have h5 : Rd enc W m 9 ((cs.drop 5).take (Try.prog.cellsOf 9)) := hf 5 _ rfl
  have h6 : Rd enc W m 3 ((cs.drop 6).take (Try.prog.cellsOf 3)) := hf 6 _ rfl
  have h7 : Rd enc W m 3 ((cs.drop 7).take (Try.prog.cellsOf 3)) := hf 7 _ rfl
  have h8 : Rd enc W m 3 ((cs.drop 8).take (Try.prog.cellsOf 3)) := hf 8 _ rfl
  rw [c58] at hl
  obtain ⟨a, b, c, d, e, f, g, i, j, rfl⟩ := len9 hl
  rw [c3] at h0 h2 h6 h7 h8
  rw [c9] at h1 h4 h5
  rw [c22] at h3
  obtain ⟨x0, e0⟩ := rd_int Try.underlying3 h0
  obtain ⟨x1, e1⟩ := rd_name h1
  obtain ⟨x2, e2⟩ := rd_int Try.underlying3 h2
  obtain ⟨x3, l3, e3, k3⟩ := rd_terms h3
  obtain ⟨x4, e4⟩ := rd_name h4
  obtain ⟨x5, e5⟩ := rd_name h5
  obtain ⟨x6, e6⟩ := rd_int Try.underlying3 h6
  obtain ⟨x7, e7⟩ := rd_int Try.underlying3 h7
  obtain ⟨x8, e8⟩ := rd_int Try.underlying3 h8
  simp at e0 e1 e2 e3 e4 e5 e6 e7 e8
  exact ⟨⟨x0, x1, x2, x3, l3, x4, x5, x6, x7, x8⟩, by rw [e0, e1, e2, e3, e4, e5, e6, e7, e8]; rfl, k3⟩
theorem rd_lits {n : Nat} {cs : List Value} (h : Rd enc W n 25 cs) : ∃ v l, cs = [v] ∧ IsLits W v l := by
  obtain ⟨v, l, e, hr, ho⟩ := rd_slice (α := Lt) encL (LitOk W) Try.underlying25 c58 (by decide) (fun m cs h => rd_lit h) h
  exact ⟨v, l, e, hr, ho⟩
theorem rd_elem {n : Nat} {cs : List Value} (h : Rd enc W n 24 cs) : ∃ (k : Int) (a b : Nm) (i : Int), cs = [.int .i64 k, .string a.1, .string b.1, .int .i64 i] := by
  obtain ⟨hl, m, hf⟩ := rd_field Try.underlying24 h
  have h0 : Rd enc W m 3 ((cs.drop 0).take (Try.prog.cellsOf 3)) := hf 0 _ rfl
  have h1 : Rd enc W m 9 ((cs.drop 1).take (Try.prog.cellsOf 9)) := hf 1 _ rfl
  have h2 : Rd enc W m 9 ((cs.drop 2).take (Try.prog.cellsOf 9)) := hf 2 _ rfl
  have h3 : Rd enc W m 3 ((cs.drop 3).take (Try.prog.cellsOf 3)) := hf 3 _ rfl
  rw [c24] at hl
  obtain ⟨a, b, c, d, rfl⟩ := len4 hl
  rw [c3] at h0 h3
  rw [c9] at h1 h2
  obtain ⟨x, e0⟩ := rd_int Try.underlying3 h0
  obtain ⟨y, e1⟩ := rd_name h1
  obtain ⟨z, e2⟩ := rd_name h2
  obtain ⟨u, e3⟩ := rd_int Try.underlying3 h3
  simp at e0 e1 e2 e3
  exact ⟨x, y, z, u, by rw [e0, e1, e2, e3]⟩
theorem rd_rule {n : Nat} {cs : List Value} (h : Rd enc W n 27 cs) : ∃ r : Rl, cs = encR r ∧ RuleOk W r := by
  obtain ⟨hl, m, hf⟩ := rd_field Try.underlying27 h
  have h0 : Rd enc W m 9 ((cs.drop 0).take (Try.prog.cellsOf 9)) := hf 0 _ rfl
  have h1 : Rd enc W m 3 ((cs.drop 1).take (Try.prog.cellsOf 3)) := hf 1 _ rfl
  have h2 : Rd enc W m 22 ((cs.drop 2).take (Try.prog.cellsOf 22)) := hf 2 _ rfl
  have h3 : Rd enc W m 24 ((cs.drop 3).take (Try.prog.cellsOf 24)) := hf 3 _ rfl
  have h4 : Rd enc W m 25 ((cs.drop 7).take (Try.prog.cellsOf 25)) := hf 4 _ rfl
  have h5 : Rd enc W m 3 ((cs.drop 8).take (Try.prog.cellsOf 3)) := hf 5 _ rfl
  rw [c27] at hl
  obtain ⟨a, b, c, d, e, f, g, i, j, rfl⟩ := len9 hl
  rw [c3] at h1 h5
  rw [c9] at h0
  rw [c22] at h2
  rw [c24] at h3
  rw [c25] at h4
  obtain ⟨x0, e0⟩ := rd_name h0
  obtain ⟨x1, e1⟩ := rd_int Try.underlying3 h1
  obtain ⟨x2, l2, e2, k2⟩ := rd_terms h2
  obtain ⟨y0, y1, y2, y3, e3⟩ := rd_elem h3
  obtain ⟨x4, l4, e4, k4⟩ := rd_lits h4
  obtain ⟨x5, e5⟩ := rd_int Try.underlying3 h5
  simp at e0 e1 e2 e3 e4 e5
  obtain ⟨f0, f1, f2, f3⟩ := e3
  exact ⟨⟨x0, x1, x2, l2, y0, y1, y2, y3, x4, l4, x5⟩, by rw [e0, e1, e2, f0, f1, f2, f3, e4, e5]; rfl, k2, k4⟩
theorem rd_rules {n : Nat} {cs : List Value} (h : Rd enc W n 33 cs) : ∃ v l, cs = [v] ∧ IsRules W v l := by
  obtain ⟨v, l, e, hr, ho⟩ := rd_slice (α := Rl) encR (RuleOk W) Try.underlying33 c27 (by decide) (fun m cs h => rd_rule h) h
  exact ⟨v, l, e, hr, ho⟩
/-! ### the arguments -/
section
variable {base : Nat} {v : Value} {d : DataW H} {p : List MemPlace}
theorem rule_of_read (hv : Value.okWide Try.prog W .any base 27 v) (h : DataW.Trod enc Try.prog W 0 (fun _ => true) true 27 v d p) : ∃ r, v = ruleV r ∧ RuleOk W r := by
  obtain ⟨cs, rfl, _⟩ := okWide_struct Try.underlying27 hv
  obtain ⟨fuel, hf⟩ := h
  obtain ⟨r, e, hr⟩ := rd_rule ⟨_, hf⟩
  refine ⟨r, ?_, hr⟩
  have : cs.toList = encR r := e
  unfold ruleV
  congr 1
  exact Array.toList_inj.1 this
theorem prog_of_read (hv : Value.okWide Try.prog W .any base 35 v) (h : DataW.Trod enc Try.prog W 0 (fun _ => true) true 35 v d p) : ∃ q : Pg, v = progV q ∧ IsRules W q.rules q.rls := by
  obtain ⟨cs, rfl, _⟩ := okWide_struct Try.underlying35 hv
  obtain ⟨fuel, hf⟩ := h
  obtain ⟨hl, m, hff⟩ := rd_field Try.underlying35 ⟨_, hf⟩
  have h3 : Rd enc W m 33 (((Value.agg cs).cells.toList.drop 3).take (Try.prog.cellsOf 33)) := hff 3 _ rfl
  have c33 : Try.prog.cellsOf 33 = 1 := by kernel_rfl
  have c35 : Try.prog.cellsOf 35 = 4 := by kernel_rfl
  rw [c35] at hl
  rw [c33] at h3
  have hcs : (Value.agg cs).cells.toList = cs.toList := rfl
  rw [hcs] at hl h3
  obtain ⟨a, b, c, dd, e⟩ := len4 hl
  rw [e] at h3
  obtain ⟨x, l, e3, hr⟩ := rd_rules h3
  simp at e3
  refine ⟨⟨a, b, c, x, l⟩, ?_, hr⟩
  unfold progV
  congr 1
  apply Array.toList_inj.1
  rw [e, e3]
theorem names_of_read (hv : Value.okWide Try.prog W .any base 28 v) (h : DataW.Trod enc Try.prog W 0 (fun _ => true) true 28 v d p) : ∃ l, IsNames W v l := by
  obtain ⟨a0, len0, cap0, rfl⟩ := okWide_slice Try.underlying28 hv
  obtain ⟨fuel, hf⟩ := h
  obtain ⟨u, l, e, hr⟩ := rd_names ⟨_, hf⟩
  have : u = .slice a0 len0 cap0 := by simpa [Value.cells] using e.symm
  exact ⟨l, this ▸ hr⟩
theorem ints_of_read (hv : Value.okWide Try.prog W .any base 29 v) (h : DataW.Trod enc Try.prog W 0 (fun _ => true) true 29 v d p) : ∃ l, IsInts W v l := by
  obtain ⟨a0, len0, cap0, rfl⟩ := okWide_slice Try.underlying29 hv
  obtain ⟨fuel, hf⟩ := h
  obtain ⟨u, l, e, hr⟩ := rd_ints ⟨_, hf⟩
  have : u = .slice a0 len0 cap0 := by simpa [Value.cells] using e.symm
  exact ⟨l, this ▸ hr⟩
end
end
end Go.Proofs.Ytnibgmmoebmnlaa
