/- How the rows' arguments read, with the bound on each name's length. -/
import Derived.Test.YtnibgmmoebmnlaaOpenC
import Derived.SizedLaws
import Derived.Test.YtnibgmmoebmnlaaPlainD
namespace Go.Proofs.Ytnibgmmoebmnlaa
open Go.ChangeShapes Go.WideShapes Go.ChangeAt Go.RowKit Go.Deep
section
variable {H : Type} {enc : TypeId × Value → H} {W : World}
def WOk (t : TypeId) (d : DataW H) : Prop := (d.weights Try.prog t).all (· ≤ reachBytes) = true
theorem wok_each : ∀ {ts : List TypeId} {ds : List (DataW H)}, (DataW.weightsEach Try.prog ts ds).all (· ≤ reachBytes) = true → ∀ (i : Nat) (t : TypeId) (d : DataW H), ts[i]? = some t → ds[i]? = some d → WOk t d
  | [], _, _, i, t, d, h, _ => by simp at h
  | _ :: _, [], _, i, t, d, _, h => by simp at h
  | t0 :: ts, d0 :: ds, h, 0, t, d, h1, h2 => by
    simp only [DataW.weightsEach, List.all_append, Bool.and_eq_true] at h
    obtain rfl : t0 = t := by simpa using h1
    obtain rfl : d0 = d := by simpa using h2
    exact h.1
  | t0 :: ts, d0 :: ds, h, i + 1, t, d, h1, h2 => by
    simp only [DataW.weightsEach, List.all_append, Bool.and_eq_true] at h
    exact wok_each h.2 i t d (by simpa using h1) (by simpa using h2)
theorem wok_all {e : TypeId} : ∀ {ds : List (DataW H)}, (DataW.weightsAll Try.prog e ds).all (· ≤ reachBytes) = true → ∀ d ∈ ds, WOk e d
  | [], _, d, h => by cases h
  | d0 :: r, h, d, hd => by
    simp only [DataW.weightsAll, List.all_append, Bool.and_eq_true] at h
    rcases List.mem_cons.1 hd with rfl | hd
    · exact h.1
    · exact wok_all h.2 d hd
/-- A name that leaves room for a suffix. -/
def RoomS (x : Nm) : Prop := x.1.size ≤ 140737488351232
/-- Whatever reads as type t, each name in reach: its cells. -/
abbrev Rz (enc : TypeId × Value → H) (W : World) (n : Nat) (t : TypeId) (cs : List Value) : Prop := ∃ y, DataW.trod enc Try.prog W 0 (fun _ => true) true n t cs = some y ∧ WOk t y.1
theorem Rz.rd {n : Nat} {t : TypeId} {cs : List Value} (h : Rz enc W n t cs) : Rd enc W n t cs := let ⟨y, h, _⟩ := h; ⟨y, h⟩
theorem rz_name {n : Nat} {cs : List Value} (h : Rz enc W n 9 cs) : ∃ x : Nm, cs = [.string x.1] ∧ RoomS x := by
  obtain ⟨y, h, hw⟩ := h
  obtain ⟨z, e, hy, hs⟩ := DataW.trod_string Try.underlying9 h
  subst hy
  refine ⟨⟨z, hs⟩, e, ?_⟩
  unfold WOk at hw
  simp only [DataW.weights, List.all_cons, List.all_nil, Bool.and_true, decide_eq_true_eq] at hw
  exact hw
theorem rz_field {n : Nat} {t : TypeId} {cs : List Value} {fs : Array Field} (ht : Try.prog.underlying t = some (.struct fs)) (h : Rz enc W n t cs) :
    cs.length = Try.prog.cellsOf t ∧ ∃ m, ∀ (i : Nat) (f : Field), fs[i]? = some f → Rz enc W m f.type ((cs.drop f.offset).take (Try.prog.cellsOf f.type)) := by
  obtain ⟨y, h, hw⟩ := h
  obtain ⟨xs, m, _, hy, hl, hxl, hf⟩ := DataW.trod_struct ht h
  subst hy
  unfold WOk at hw
  simp only [DataW.weights, ht] at hw
  refine ⟨hl, m, fun i f hi => ?_⟩
  have hx := hf i f hi
  have hlt : i < xs.length := by rw [hxl]; exact (Array.getElem?_eq_some_iff.1 hi).1
  refine ⟨xs[i], by rw [hx]; exact List.getElem?_eq_getElem hlt, ?_⟩
  exact wok_each hw i f.type xs[i].1 (by simp [hi]) (by simp [hlt])
theorem rz_slice {α : Type} {n : Nat} {t e k : Nat} {cs : List Value} (en : α → List Value) (ok : α → Prop) (ht : Try.prog.underlying t = some (.slice e)) (hk : Try.prog.cellsOf e = k) (hk0 : 0 < k)
    (hel : ∀ m cs, Rz enc W m e cs → ∃ x, cs = en x ∧ ok x) (h : Rz enc W n t cs) : ∃ v l, cs = [v] ∧ IsRows k en W v l ∧ ∀ x ∈ l, ok x := by
  obtain ⟨y, h, hw⟩ := h
  rcases open_slice ht h with ⟨hcs, _⟩ | ⟨a, len, cap, m, n', D, Pl, hcs, _, hl, hm, hmm, hy, hi⟩
  · exact ⟨_, [], hcs, ⟨none, 0, rfl, .inl rfl, by simp⟩, by simp⟩
  · simp only [if_true] at hmm
    subst hmm
    have hok' : ∀ i, i < len → WOk e (D i) := fun i hil => by
      subst hy
      unfold WOk at hw
      simp only [DataW.weights, ht, List.all_cons, List.all_append, Bool.and_eq_true] at hw
      exact wok_all hw.2.1 _ (List.mem_map.2 ⟨i, List.mem_range.2 hil, rfl⟩)
    rw [hk] at hi
    have key : ∀ i, i < len → ∃ x, ok x ∧ ∀ j u, (en x)[j]? = some u → W.cell? ((a.add (i * k)).add j) = some u := by
      intro i hil
      obtain ⟨cs', hc, ht'⟩ := hi i (by omega)
      obtain ⟨_, hcl, hat⟩ := World.cells?_some hc
      obtain ⟨x, hx, hox⟩ := hel _ _ ⟨_, ht', hok' i hil⟩
      refine ⟨x, hox, fun j u hj => ?_⟩
      rw [← hx] at hj
      have hjl : j < k := by have := (List.getElem?_eq_some_iff.1 hj).1; omega
      rw [hat j hjl, hj]
    have hlen : ∀ i, i < len → ∃ x, ok x ∧ (en x).length = k := by
      intro i hil
      obtain ⟨cs', hc, ht'⟩ := hi i (by omega)
      obtain ⟨_, hcl, hat⟩ := World.cells?_some hc
      obtain ⟨x, hx, hox⟩ := hel _ _ ⟨_, ht', hok' i hil⟩
      exact ⟨x, hox, by rw [← hx]; exact hcl⟩
    have hlm : len ≤ 9223372036854775807 := by unfold maxLen at hm; omega
    rcases Nat.eq_zero_or_pos len with h0 | h0
    · subst h0
      exact ⟨_, [], hcs, ⟨some a, m, rfl, .inl rfl, by simp⟩, by simp⟩
    · obtain ⟨x0, hox0, _⟩ := key 0 h0
      have key' : ∀ i, ∃ x, i < len → (ok x ∧ ∀ j u, (en x)[j]? = some u → W.cell? ((a.add (i * k)).add j) = some u) := by
        intro i
        by_cases h : i < len
        · obtain ⟨x, hx⟩ := key i h
          exact ⟨x, fun _ => hx⟩
        · exact ⟨x0, fun h' => absurd h' h⟩
      let f : Nat → α := fun i => Classical.choose (key' i)
      have hf : ∀ i, i < len → (ok (f i) ∧ ∀ j u, (en (f i))[j]? = some u → W.cell? ((a.add (i * k)).add j) = some u) := fun i => Classical.choose_spec (key' i)
      obtain ⟨b, off, spot⟩ := a
      have hsp : spot = none := by
        obtain ⟨cs', hc, ht'⟩ := hi 0 (by omega)
        obtain ⟨_, hcl, hat⟩ := World.cells?_some hc
        have h1 := hat 0 hk0
        rw [List.getElem?_eq_getElem (by omega)] at h1
        simpa [Addr.add] using World.cell?_spot h1
      subst hsp
      refine ⟨_, (List.range len).map f, hcs, ⟨some ⟨b, off, none⟩, m, by simp, .inr ⟨b, off, rfl, fun i x hix j u hj => ?_⟩, by simpa using hlm⟩, ?_⟩
      · rw [List.getElem?_map] at hix
        obtain ⟨i', hi', rfl⟩ := Option.map_eq_some_iff.1 hix
        have hlt : i < len := by have := (List.getElem?_eq_some_iff.1 hi').1; simpa using this
        rw [List.getElem?_range hlt] at hi'
        obtain rfl : i = i' := by simpa using hi'
        have := (hf i hlt).2 j u hj
        have e : ((⟨b, off, none⟩ : Addr).add (i * k)).add j = ⟨b, off + i * k + j, none⟩ := by
          rw [Go.Deep.add_add]
          unfold Addr.add
          split
          · rename_i h; simp at h; simp
          · simp [Nat.add_assoc]
        rwa [e] at this
      · intro x hx
        obtain ⟨i, hi', rfl⟩ := List.mem_map.1 hx
        exact (hf i (by simpa using hi')).1
theorem rz_term {n : Nat} {cs : List Value} (h : Rz enc W n 69 cs) : ∃ t : Tm, cs = encT t ∧ RoomS t.var := by
  obtain ⟨hl, m, hf⟩ := rz_field Try.underlying69 h
  have h0 : Rz enc W m 9 ((cs.drop 0).take (Try.prog.cellsOf 9)) := hf 0 _ rfl
  have h1 : Rz enc W m 67 ((cs.drop 1).take (Try.prog.cellsOf 67)) := hf 1 _ rfl
  rw [c69] at hl
  obtain ⟨a, b, c, d, rfl⟩ := len4 hl
  rw [c9] at h0
  rw [c67] at h1
  obtain ⟨x, e0, hx⟩ := rz_name h0
  obtain ⟨y, z, u, e1⟩ := rd_value h1.rd
  simp at e0 e1
  obtain ⟨e1, e2, e3⟩ := e1
  exact ⟨⟨x, y, z, u⟩, by rw [e0, e1, e2, e3]; rfl, hx⟩
theorem rz_terms {n : Nat} {cs : List Value} (h : Rz enc W n 22 cs) : ∃ v l, cs = [v] ∧ IsTerms W v l ∧ ∀ t ∈ l, RoomS t.var := by
  obtain ⟨v, l, e, hr, ho⟩ := rz_slice (α := Tm) encT (fun t => RoomS t.var) Try.underlying22 c69 (by decide) (fun m cs h => rz_term h) h
  exact ⟨v, l, e, hr, ho⟩
theorem rz_lit {n : Nat} {cs : List Value} (h : Rz enc W n 58 cs) : ∃ q : Lt, cs = encL q ∧ LitOk W q ∧ FitL RoomS q := by
  obtain ⟨hl, m, hf⟩ := rz_field Try.underlying58 h
  have h0 : Rz enc W m 3 ((cs.drop 0).take (Try.prog.cellsOf 3)) := hf 0 _ rfl
  have h1 : Rz enc W m 9 ((cs.drop 1).take (Try.prog.cellsOf 9)) := hf 1 _ rfl
  have h2 : Rz enc W m 3 ((cs.drop 2).take (Try.prog.cellsOf 3)) := hf 2 _ rfl
  have h3 : Rz enc W m 22 ((cs.drop 3).take (Try.prog.cellsOf 22)) := hf 3 _ rfl
  have h4 : Rz enc W m 9 ((cs.drop 4).take (Try.prog.cellsOf 9)) := hf 4 _ rfl
  have h5 : Rz enc W m 9 ((cs.drop 5).take (Try.prog.cellsOf 9)) := hf 5 _ rfl
  have h6 : Rz enc W m 3 ((cs.drop 6).take (Try.prog.cellsOf 3)) := hf 6 _ rfl
  have h7 : Rz enc W m 3 ((cs.drop 7).take (Try.prog.cellsOf 3)) := hf 7 _ rfl
  have h8 : Rz enc W m 3 ((cs.drop 8).take (Try.prog.cellsOf 3)) := hf 8 _ rfl
  rw [c58] at hl
  obtain ⟨a, b, c, d, e, f, g, i, j, rfl⟩ := len9 hl
  rw [c3] at h0 h2 h6 h7 h8
  rw [c9] at h1 h4 h5
  rw [c22] at h3
  obtain ⟨x0, e0⟩ := rd_int Try.underlying3 h0.rd
  obtain ⟨x1, e1⟩ := rd_name h1.rd
  obtain ⟨x2, e2⟩ := rd_int Try.underlying3 h2.rd
  obtain ⟨x3, l3, e3, k3, r3⟩ := rz_terms h3
  obtain ⟨x4, e4, r4⟩ := rz_name h4
  obtain ⟨x5, e5⟩ := rd_name h5.rd
  obtain ⟨x6, e6⟩ := rd_int Try.underlying3 h6.rd
  obtain ⟨x7, e7⟩ := rd_int Try.underlying3 h7.rd
  obtain ⟨x8, e8⟩ := rd_int Try.underlying3 h8.rd
  simp at e0 e1 e2 e3 e4 e5 e6 e7 e8
  exact ⟨⟨x0, x1, x2, x3, l3, x4, x5, x6, x7, x8⟩, by rw [e0, e1, e2, e3, e4, e5, e6, e7, e8]; rfl, k3, r3, r4⟩
theorem rz_lits {n : Nat} {cs : List Value} (h : Rz enc W n 25 cs) : ∃ v l, cs = [v] ∧ IsLits W v l ∧ ∀ q ∈ l, FitL RoomS q := by
  obtain ⟨v, l, e, hr, ho⟩ := rz_slice (α := Lt) encL (fun q => LitOk W q ∧ FitL RoomS q) Try.underlying25 c58 (by decide) (fun m cs h => rz_lit h) h
  exact ⟨v, l, e, ⟨hr, fun q hq => (ho q hq).1⟩, fun q hq => (ho q hq).2⟩
theorem rz_elem {n : Nat} {cs : List Value} (h : Rz enc W n 24 cs) : ∃ (k : Int) (a b : Nm) (i : Int), cs = [.int .i64 k, .string a.1, .string b.1, .int .i64 i] ∧ RoomS b := by
  obtain ⟨hl, m, hf⟩ := rz_field Try.underlying24 h
  have h0 : Rz enc W m 3 ((cs.drop 0).take (Try.prog.cellsOf 3)) := hf 0 _ rfl
  have h1 : Rz enc W m 9 ((cs.drop 1).take (Try.prog.cellsOf 9)) := hf 1 _ rfl
  have h2 : Rz enc W m 9 ((cs.drop 2).take (Try.prog.cellsOf 9)) := hf 2 _ rfl
  have h3 : Rz enc W m 3 ((cs.drop 3).take (Try.prog.cellsOf 3)) := hf 3 _ rfl
  rw [c24] at hl
  obtain ⟨a, b, c, d, rfl⟩ := len4 hl
  rw [c3] at h0 h3
  rw [c9] at h1 h2
  obtain ⟨x, e0⟩ := rd_int Try.underlying3 h0.rd
  obtain ⟨y, e1⟩ := rd_name h1.rd
  obtain ⟨z, e2, r2⟩ := rz_name h2
  obtain ⟨u, e3⟩ := rd_int Try.underlying3 h3.rd
  simp at e0 e1 e2 e3
  exact ⟨x, y, z, u, by rw [e0, e1, e2, e3], r2⟩
theorem rz_rule {n : Nat} {cs : List Value} (h : Rz enc W n 27 cs) : ∃ r : Rl, cs = encR r ∧ RuleOk W r ∧ (∀ t ∈ r.targs, RoomS t.var) ∧ RoomS r.evar ∧ ∀ q ∈ r.lits, FitL RoomS q := by
  obtain ⟨hl, m, hf⟩ := rz_field Try.underlying27 h
  have h0 : Rz enc W m 9 ((cs.drop 0).take (Try.prog.cellsOf 9)) := hf 0 _ rfl
  have h1 : Rz enc W m 3 ((cs.drop 1).take (Try.prog.cellsOf 3)) := hf 1 _ rfl
  have h2 : Rz enc W m 22 ((cs.drop 2).take (Try.prog.cellsOf 22)) := hf 2 _ rfl
  have h3 : Rz enc W m 24 ((cs.drop 3).take (Try.prog.cellsOf 24)) := hf 3 _ rfl
  have h4 : Rz enc W m 25 ((cs.drop 7).take (Try.prog.cellsOf 25)) := hf 4 _ rfl
  have h5 : Rz enc W m 3 ((cs.drop 8).take (Try.prog.cellsOf 3)) := hf 5 _ rfl
  rw [c27] at hl
  obtain ⟨a, b, c, d, e, f, g, i, j, rfl⟩ := len9 hl
  rw [c3] at h1 h5
  rw [c9] at h0
  rw [c22] at h2
  rw [c24] at h3
  rw [c25] at h4
  obtain ⟨x0, e0⟩ := rd_name h0.rd
  obtain ⟨x1, e1⟩ := rd_int Try.underlying3 h1.rd
  obtain ⟨x2, l2, e2, k2, r2⟩ := rz_terms h2
  obtain ⟨y0, y1, y2, y3, e3, r3⟩ := rz_elem h3
  obtain ⟨x4, l4, e4, k4, r4⟩ := rz_lits h4
  obtain ⟨x5, e5⟩ := rd_int Try.underlying3 h5.rd
  simp at e0 e1 e2 e3 e4 e5
  obtain ⟨f0, f1, f2, f3⟩ := e3
  exact ⟨⟨x0, x1, x2, l2, y0, y1, y2, y3, x4, l4, x5⟩, by rw [e0, e1, e2, f0, f1, f2, f3, e4, e5]; rfl, ⟨k2, k4⟩, r2, r3, r4⟩
theorem rz_names {n : Nat} {cs : List Value} (h : Rz enc W n 28 cs) : ∃ v l, cs = [v] ∧ IsNames W v l ∧ ∀ x ∈ l, RoomS x := by
  obtain ⟨v, l, e, hr, ho⟩ := rz_slice (α := Nm) encS RoomS Try.underlying28 (show Try.prog.cellsOf 9 = 1 by kernel_rfl) (by decide) (fun m cs h => rz_name h) h
  exact ⟨v, l, e, hr, ho⟩
section
variable {base : Nat} {v : Value} {d : DataW H} {p : List MemPlace}
theorem ruleZ_of_read (hv : Value.okWide Try.prog W .any base 27 v) (h : DataW.Trod enc Try.prog W 0 (fun _ => true) true 27 v d p) (hw : WOk 27 d) : ∃ r, v = ruleV r ∧ RuleOk W r ∧ (∀ t ∈ r.targs, RoomS t.var) ∧ RoomS r.evar ∧ ∀ q ∈ r.lits, FitL RoomS q := by
  obtain ⟨cs, rfl, _⟩ := okWide_struct Try.underlying27 hv
  obtain ⟨fuel, hf⟩ := h
  obtain ⟨r, e, hr⟩ := rz_rule ⟨_, hf, hw⟩
  refine ⟨r, ?_, hr⟩
  have : cs.toList = encR r := e
  unfold ruleV
  congr 1
  exact Array.toList_inj.1 this
theorem namesZ_of_read (hv : Value.okWide Try.prog W .any base 28 v) (h : DataW.Trod enc Try.prog W 0 (fun _ => true) true 28 v d p) (hw : WOk 28 d) : ∃ l, IsNames W v l ∧ ∀ x ∈ l, RoomS x := by
  obtain ⟨a0, len0, cap0, rfl⟩ := okWide_slice Try.underlying28 hv
  obtain ⟨fuel, hf⟩ := h
  obtain ⟨u, l, e, hr⟩ := rz_names ⟨_, hf, hw⟩
  have : u = .slice a0 len0 cap0 := by simpa [Value.cells] using e.symm
  exact ⟨l, this ▸ hr⟩
end
end
end Go.Proofs.Ytnibgmmoebmnlaa
