/- Parts Zh: words, walks and laws that the claims of this seat share. -/
import Derived.Test.YtdibijhaiaiifaaDoorJ20
/- The heads of sorted rows, one after another: what the reference's build computes, in plain Lean. -/
namespace Go.Proofs.YtdibijhaiaiifaaDoor
def hdAt (F : List Rw) (i : Nat) : Option Vl := (F[i]?).bind fun x => fst? x.1
def newB (F : List Rw) (i : Nat) : Bool := decide (i = 0) || decide (hdAt F (i - 1) ≠ hdAt F i)
def hdsN (F : List Rw) : Nat → List Vl
  | 0 => []
  | i + 1 => hdsN F i ++ (if newB F i then (hdAt F i).toList else [])
theorem hdAt_of {F : List Rw} {i : Nat} {x : Rw} (h : F[i]? = some x) : hdAt F i = fst? x.1 := by unfold hdAt; rw [h]; rfl
theorem hds_new {F : List Rw} {i : Nat} {y : Vl} (hn : newB F i = true) (h : hdAt F i = some y) : hdsN F (i + 1) = hdsN F i ++ [y] := by
  show hdsN F i ++ (if newB F i then (hdAt F i).toList else []) = _
  rw [hn, h]; rfl
theorem hds_old {F : List Rw} {i : Nat} (hn : newB F i = false) : hdsN F (i + 1) = hdsN F i := by
  show hdsN F i ++ (if newB F i then (hdAt F i).toList else []) = _
  rw [hn]; simp
theorem newB_zero (F : List Rw) : newB F 0 = true := rfl
theorem newB_succ (F : List Rw) (i : Nat) : newB F (i + 1) = decide (hdAt F i ≠ hdAt F (i + 1)) := by
  unfold newB
  rw [decide_eq_false (by omega), Bool.false_or, Nat.add_sub_cancel]
theorem hds_len (F : List Rw) : ∀ i, (hdsN F i).length ≤ i
  | 0 => Nat.le_refl _
  | i + 1 => by
    have := hds_len F i
    unfold hdsN
    rw [List.length_append]
    have : (if newB F i = true then (hdAt F i).toList else []).length ≤ 1 := by
      split
      · cases hdAt F i <;> simp
      · simp
    omega
theorem up_get : ∀ {F : List Rw} {i k : Nat} {a b : Rw}, Up F → F[i]? = some a → F[k]? = some b → i < k → cmpT a.1 b.1 < 0
  | [], _, _, _, _, _, h, _, _ => by simp at h
  | x :: F, 0, k + 1, a, b, h, ha, hb, _ => by
    simp only [List.getElem?_cons_zero, Option.some.injEq] at ha
    subst ha
    rw [List.getElem?_cons_succ] at hb
    exact h.1 b (List.mem_of_getElem? hb)
  | x :: F, i + 1, k + 1, a, b, h, ha, hb, hik => by
    rw [List.getElem?_cons_succ] at ha hb
    exact up_get h.2 ha hb (by omega)
theorem hd_le {n : Nat} {F : List Rw} (h : Gd (n + 1) F) {i k : Nat} {v u : Vl} (hv : hdAt F i = some v) (hu : hdAt F k = some u) (hik : i ≤ k) : cmpV v u ≤ 0 := by
  rcases Nat.lt_or_eq_of_le hik with hlt | rfl
  · obtain ⟨a, ha, ha1⟩ := Option.bind_eq_some_iff.1 hv
    obtain ⟨b, hb, hb1⟩ := Option.bind_eq_some_iff.1 hu
    have := up_get h.up ha hb hlt
    obtain ⟨a1, sa⟩ := a
    obtain ⟨b1, sb⟩ := b
    cases a1 with
    | nil => simp [fst?] at ha1
    | cons v' a1 =>
      cases b1 with
      | nil => simp [fst?] at hb1
      | cons u' b1 =>
        simp only [fst?, List.getElem?_cons_zero, Option.some.injEq] at ha1 hb1
        subst ha1 hb1
        rw [cmpT_cons] at this
        split at this <;> omega
  · rw [hv] at hu
    injection hu with hu
    rw [hu, cmpV_is.refl]; exact Int.le_refl 0
theorem hd_some {n : Nat} {F : List Rw} (h : Gd (n + 1) F) {i : Nat} (hi : i < F.length) : ∃ v, hdAt F i = some v := by
  obtain ⟨x, hx⟩ : ∃ x, F[i]? = some x := ⟨_, List.getElem?_eq_getElem hi⟩
  rw [hdAt_of hx]
  have := h.len x (List.mem_of_getElem? hx)
  obtain ⟨t, s⟩ := x
  cases t with
  | nil => simp at this
  | cons v t => exact ⟨v, rfl⟩
theorem le_antisymm' {x y : Vl} (h : cmpV x y ≤ 0) (k : cmpV y x ≤ 0) : x = y := by
  have := cmpV_is.anti x y
  exact (cmpV_is.eq x y).1 (by omega)
theorem under_run {n : Nat} {F : List Rw} (h : Gd (n + 1) F) {i k : Nat} {y : Vl} (hn : newB F i = true) (hy : hdAt F i = some y) (hik : i < k) (hk : k ≤ F.length) (hrun : ∀ j, i ≤ j → j < k → hdAt F j = some y) (hend : k = F.length ∨ hdAt F k ≠ some y) : ((F.drop i).take (k - i)).map tailW = under y F := by
  have e : F = F.take i ++ ((F.drop i).take (k - i) ++ F.drop k) := by
    conv => lhs; rw [← List.take_append_drop i F]
    congr 1
    conv => lhs; rw [← List.take_append_drop (k - i) (F.drop i), List.drop_drop]
    congr 2; omega
  have h1 : under y (F.take i) = [] := under_none fun x hx e => by
    obtain ⟨j, hj⟩ := List.mem_iff_getElem?.1 hx
    have hji : j < i := by have := (List.getElem?_eq_some_iff.1 hj).1; rw [List.length_take] at this; omega
    rw [List.getElem?_take_of_lt hji] at hj
    have hvj : hdAt F j = some y := by rw [hdAt_of hj]; exact e
    obtain ⟨m, rfl⟩ : ∃ m, i = m + 1 := ⟨i - 1, by omega⟩
    obtain ⟨z, hz⟩ := hd_some h (i := m) (by omega)
    rw [newB_succ, decide_eq_true_iff, hz, hy] at hn
    have := le_antisymm' (hd_le h hvj hz (by omega)) (hd_le h hz hy (by omega))
    exact hn (by rw [this])
  have h2 : under y ((F.drop i).take (k - i)) = ((F.drop i).take (k - i)).map tailW := by
    unfold under
    rw [List.filter_eq_self.2]
    intro x hx
    obtain ⟨j, hj⟩ := List.mem_iff_getElem?.1 hx
    have hjl : j < k - i := by have := (List.getElem?_eq_some_iff.1 hj).1; rw [List.length_take] at this; omega
    rw [List.getElem?_take_of_lt hjl, List.getElem?_drop] at hj
    have := hrun (i + j) (by omega) (by omega)
    rw [hdAt_of hj] at this
    exact decide_eq_true this
  have h3 : under y (F.drop k) = [] := under_none fun x hx e => by
    obtain ⟨j, hj⟩ := List.mem_iff_getElem?.1 hx
    rw [List.getElem?_drop] at hj
    have hvj : hdAt F (k + j) = some y := by rw [hdAt_of hj]; exact e
    have hkl : k < F.length := by have := (List.getElem?_eq_some_iff.1 hj).1; omega
    obtain ⟨z, hz⟩ := hd_some h hkl
    rcases hend with q | q
    · omega
    · have := le_antisymm' (hd_le h hy hz (by omega)) (hd_le h hz hvj (by omega))
      exact q (by rw [hz, ← this])
  conv => rhs; rw [e]
  rw [under_app, under_app, h1, h2, h3, List.append_nil, List.nil_append]
theorem hds_group {F A gs R : List Rw} {y : Vl} (hF : F = A ++ (gs ++ R)) (hg : ∀ x ∈ gs, fst? x.1 = some y) (hA : ∀ x ∈ A, fst? x.1 ≠ some y) : ∀ m, m < gs.length → hdsN F (A.length + m + 1) = hdsN F A.length ++ [y]
  | 0, hm => by
    have hat : hdAt F A.length = some y := by
      obtain ⟨x, hx⟩ : ∃ x, gs[0]? = some x := ⟨_, List.getElem?_eq_getElem hm⟩
      have : F[A.length]? = some x := by rw [hF, List.getElem?_append_right (Nat.le_refl _), Nat.sub_self, List.getElem?_append_left hm]; exact hx
      rw [hdAt_of this]; exact hg x (List.mem_of_getElem? hx)
    refine hds_new ?_ hat
    unfold newB
    by_cases h0 : A.length = 0
    · rw [decide_eq_true h0]; rfl
    · rw [decide_eq_false h0, Bool.false_or, decide_eq_true_iff, hat]
      obtain ⟨x, hx⟩ : ∃ x, A[A.length - 1]? = some x := ⟨_, List.getElem?_eq_getElem (by omega)⟩
      have : F[A.length - 1]? = some x := by rw [hF, List.getElem?_append_left (by omega)]; exact hx
      rw [hdAt_of this]
      exact hA x (List.mem_of_getElem? hx)
  | m + 1, hm => by
    have at_ : ∀ j, j < gs.length → hdAt F (A.length + j) = some y := fun j hj => by
      obtain ⟨x, hx⟩ : ∃ x, gs[j]? = some x := ⟨_, List.getElem?_eq_getElem hj⟩
      have : F[A.length + j]? = some x := by rw [hF, List.getElem?_append_right (by omega), Nat.add_sub_cancel_left, List.getElem?_append_left hj]; exact hx
      rw [hdAt_of this]; exact hg x (List.mem_of_getElem? hx)
    rw [← hds_group hF hg hA m (by omega)]
    refine hds_old ?_
    show newB F (A.length + m + 1) = false
    rw [newB_succ, at_ m (by omega), show A.length + m + 1 = A.length + (m + 1) by omega, at_ (m + 1) hm]
    simp
theorem hds_groups {n : Nat} : ∀ {G : List Gr} {A : List Rw}, GdG n G → (∀ x ∈ A, ∀ g ∈ G, fst? x.1 ≠ some g.1) → hdsN (A ++ joinG G) (A ++ joinG G).length = hdsN (A ++ joinG G) A.length ++ G.map (·.1)
  | [], A, _, _ => by simp [joinG]
  | (v, g) :: G, A, h, hA => by
    have hg : ∀ x ∈ g.map (consW v), fst? x.1 = some v := fun x hx => by
      obtain ⟨z, -, rfl⟩ := List.mem_map.1 hx
      rfl
    have hl : 0 < (g.map (consW v)).length := by rw [List.length_map]; exact List.length_pos_iff.2 h.2.2.1
    have ih := hds_groups (G := G) (A := A ++ g.map (consW v)) h.2.2.2 (fun x hx k hk => by
      rcases List.mem_append.1 hx with hx | hx
      · exact hA x hx k (List.mem_cons_of_mem _ hk)
      · rw [hg x hx]
        intro e
        injection e with e
        have := h.1 k hk
        rw [← e, cmpV_is.refl] at this; omega)
    have hF : A ++ joinG ((v, g) :: G) = A ++ (g.map (consW v) ++ joinG G) := by rw [joinG_cons]
    have k := hds_group hF hg (fun x hx => hA x hx (v, g) (List.mem_cons_self ..)) ((g.map (consW v)).length - 1) (by omega)
    rw [show A.length + ((g.map (consW v)).length - 1) + 1 = (A ++ g.map (consW v)).length by rw [List.length_append]; omega] at k
    rw [List.append_assoc, ← joinG_cons (v, g) G] at ih
    rw [ih, k, List.append_assoc]; rfl
theorem build_hds {n : Nat} {F : List Rw} (h : Gd (n + 1) F) : buildT (n + 1) F = .mk (hdsN F F.length) ((hdsN F F.length).map fun v => buildT n (under v F)) [] := by
  obtain ⟨G, rfl, hG⟩ := split_gd F h
  have := hds_groups (A := []) hG (by simp)
  rw [List.nil_append] at this
  rw [build_join hG, this]
  congr 1
  rw [show hdsN (joinG G) [].length = [] from rfl, List.nil_append, List.map_map]
  refine List.map_congr_left fun g hg => ?_
  show buildT n g.2 = buildT n (under g.1 (joinG G))
  rw [under_at hG hg]
end Go.Proofs.YtdibijhaiaiifaaDoor
