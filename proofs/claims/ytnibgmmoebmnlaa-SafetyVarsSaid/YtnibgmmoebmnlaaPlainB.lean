/- A rule's literals in another order: the plain law. -/
import Derived.Test.YtnibgmmoebmnlaaPlain
import Derived.Test.YtnibgmmoebmnlaaWn
namespace Go.Proofs.Ytnibgmmoebmnlaa
open Go.RowKit
theorem nodup_inj {L : List Nat} (h : L.Nodup) {i j : Nat} (hi : i < L.length) (hj : j < L.length) (e : L[i] = L[j]) : i = j := by
  rcases Nat.lt_trichotomy i j with hlt | heq | hgt
  · exact absurd e (List.pairwise_iff_getElem.1 h i j hi hj hlt)
  · exact heq
  · exact absurd e.symm (List.pairwise_iff_getElem.1 h j i hj hi hgt)
theorem hasV_of {body body' : List Lt} {i j : Nat} (h : body'[j]? = body[i]?) (x : Nm) : hasV body' j x = hasV body i x := by unfold hasV; rw [h]
theorem aft_map {s : Nm → Bool} {body body' : List Lt} {f : Nat → Nat} {d : List Nat} (hf : ∀ i ∈ d, body'[f i]? = body[i]?) : aft s body' (d.map f) = aft s body d := by
  funext x
  rw [aft_or, aft_or]
  congr 1
  rw [List.any_map]
  rw [Bool.eq_iff_iff, List.any_eq_true, List.any_eq_true]
  constructor
  · rintro ⟨i, hi, h⟩; exact ⟨i, hi, by rw [← hasV_of (hf i hi)]; exact h⟩
  · rintro ⟨i, hi, h⟩; exact ⟨i, hi, by simpa [hasV_of (hf i hi)] using h⟩
/-- An order carries over along f. -/
theorem evalGo_map {s : Nm → Bool} {body body' : List Lt} {f : Nat → Nat} (hf : ∀ i, i < body.length → body'[f i]? = body[i]?) (inj : ∀ i j, i < body.length → j < body.length → f i = f j → i = j) :
    ∀ (m : List Int) (d : List Nat), (∀ i ∈ d, i < body.length) → evalGo s body d m = true → evalGo s body' (d.map f) (m.map fun i => ((f i.toNat : Nat) : Int)) = true
  | [], _, _, _ => rfl
  | i :: r, d, hd, h => by
    simp only [evalGo, Bool.and_eq_true, List.map_cons] at h ⊢
    have h1 := h.1
    unfold stepOk at h1
    simp only [Bool.and_eq_true, decide_eq_true_eq] at h1
    have hl := cand_lt h1.2
    have hn := cand_not h1.2
    have hb := hf i.toNat hl
    have hl' : f i.toNat < body'.length := by
      rw [List.getElem?_eq_getElem hl] at hb
      exact (List.getElem?_eq_some_iff.1 hb).1
    refine ⟨?_, ?_⟩
    · rw [stepOk_nat, cand_at _ _ _ _ hl', Bool.and_eq_true]
      refine ⟨?_, ?_⟩
      · rw [Bool.not_eq_true', decide_eq_false_iff_not]
        intro hm
        obtain ⟨j, hj, e⟩ := List.mem_map.1 hm
        have := inj j i.toNat (hd j hj) hl e
        exact hn (this ▸ hj)
      · have hc := h1.2
        rw [cand_at _ _ _ _ hl, Bool.and_eq_true] at hc
        rw [aft_map (fun j hj => hf j (hd j hj))]
        rw [List.getElem?_eq_getElem hl, List.getElem?_eq_getElem hl'] at hb
        rw [Option.some.inj hb]
        exact hc.2
    · have := evalGo_map hf inj r (d ++ [i.toNat]) (fun j hj => by
        rcases List.mem_append.1 hj with hj | hj
        · exact hd j hj
        · have : j = i.toNat := by simpa using hj
          rw [this]; exact hl) h.2
      simpa using this
theorem order_some_map {s : Nm → Bool} {body body' : List Lt} {f : Nat → Nat} (hlen : body'.length = body.length) (hf : ∀ i, i < body.length → body'[f i]? = body[i]?) (inj : ∀ i j, i < body.length → j < body.length → f i = f j → i = j)
    (h : (order s body).isSome = true) : (order s body').isSome = true := by
  obtain ⟨out, ho⟩ := Option.isSome_iff_exists.1 h
  have he := (order_evaluable ho).1
  unfold evaluable at he
  simp only [Bool.and_eq_true, decide_eq_true_eq] at he
  have := evalGo_map hf inj (zs out) [] (by simp) he.2
  obtain ⟨out', h', _⟩ := order_least (s := s) (body := body') (m := (zs out).map fun i => ((f i.toNat : Nat) : Int)) (by
    unfold evaluable
    simp only [Bool.and_eq_true, decide_eq_true_eq]
    exact ⟨by rw [List.length_map, he.1, hlen], by simpa using this⟩)
  rw [h']; rfl
theorem mem_addN (l : List Nm) (x y : Nm) : y ∈ addN l x ↔ y ∈ l ∨ (y ≠ noName ∧ x = y) := by
  have := congrArg (· = true) (ofList_addN l x y)
  simp only [ofList, decide_eq_true_eq, Bool.or_eq_true, Bool.and_eq_true] at this
  rw [eq_iff_iff] at this
  exact this
theorem mem_bindN (ts : List Tm) : ∀ (l : List Nm) (y : Nm), y ∈ bindN l ts ↔ y ∈ l ∨ (y ≠ noName ∧ ∃ t ∈ ts, t.var = y) := by
  induction ts with
  | nil => intro l y; simp [bindN]
  | cons t r ih =>
    intro l y
    have e : bindN l (t :: r) = bindN (addN l t.var) r := rfl
    rw [e, ih, mem_addN]
    simp only [List.mem_cons, exists_eq_or_imp]
    constructor
    · rintro ((h | h) | h)
      · exact .inl h
      · exact .inr ⟨h.1, .inl h.2⟩
      · exact .inr ⟨h.1, .inr h.2⟩
    · rintro (h | ⟨h1, h2 | h2⟩)
      · exact .inl (.inl h)
      · exact .inl (.inr ⟨h1, h2⟩)
      · exact .inr ⟨h1, h2⟩
theorem mem_ordV_go (body : List Lt) : ∀ (l : List Nm) (y : Nm), y ∈ body.foldl (fun a q => bindN a q.targs) l ↔ y ∈ l ∨ (y ≠ noName ∧ ∃ q ∈ body, ∃ t ∈ q.targs, t.var = y) := by
  induction body with
  | nil => intro l y; simp
  | cons q r ih =>
    intro l y
    rw [List.foldl_cons, ih, mem_bindN]
    simp only [List.mem_cons, exists_eq_or_imp]
    constructor
    · rintro ((h | h) | h)
      · exact .inl h
      · exact .inr ⟨h.1, .inl h.2⟩
      · exact .inr ⟨h.1, .inr h.2⟩
    · rintro (h | ⟨h1, h2 | h2⟩)
      · exact .inl (.inl h)
      · exact .inl (.inr ⟨h1, h2⟩)
      · exact .inr ⟨h1, h2⟩
theorem mem_ordV (body : List Lt) (y : Nm) : y ∈ ordV body ↔ y ≠ noName ∧ ∃ q ∈ body, ∃ t ∈ q.targs, t.var = y := by
  unfold ordV
  rw [mem_ordV_go]; simp
theorem mem_latV_go (body : List Lt) : ∀ (l : List Nm) (y : Nm), y ∈ body.foldl (fun b q => if q.kind = 1 then addN b q.bind else b) l ↔ y ∈ l ∨ (y ≠ noName ∧ ∃ q ∈ body, q.kind = 1 ∧ q.bind = y) := by
  induction body with
  | nil => intro l y; simp
  | cons q r ih =>
    intro l y
    rw [List.foldl_cons, ih]
    simp only [List.mem_cons, exists_eq_or_imp]
    by_cases hk : q.kind = 1
    · rw [if_pos hk, mem_addN]
      constructor
      · rintro ((h | h) | h)
        · exact .inl h
        · exact .inr ⟨h.1, .inl ⟨hk, h.2⟩⟩
        · exact .inr ⟨h.1, .inr h.2⟩
      · rintro (h | ⟨h1, h2 | h2⟩)
        · exact .inl (.inl h)
        · exact .inl (.inr ⟨h1, h2.2⟩)
        · exact .inr ⟨h1, h2⟩
    · rw [if_neg hk]
      constructor
      · rintro (h | h)
        · exact .inl h
        · exact .inr ⟨h.1, .inr h.2⟩
      · rintro (h | ⟨h1, h2 | h2⟩)
        · exact .inl h
        · exact absurd h2.1 hk
        · exact .inr ⟨h1, h2⟩
theorem mem_latV (body : List Lt) (y : Nm) : y ∈ latV body ↔ y ≠ noName ∧ ∃ q ∈ body, q.kind = 1 ∧ q.bind = y := by
  unfold latV
  rw [mem_latV_go]; simp
/-- Safe is safe, in whatever order the body stands. -/
theorem safe_perm {r q : Rl} {L : List Nat} (hL : L.Perm (List.range r.lits.length)) (hq : q.lits = L.filterMap fun i => r.lits[i]?) (ht : q.targs = r.targs) (hk : q.ekind = r.ekind) (hv : q.evar = r.evar) : safeP q = safeP r := by
  have hlen : L.length = r.lits.length := by rw [hL.length_eq]; simp
  have hlt : ∀ i ∈ L, i < r.lits.length := fun i hi => by simpa using hL.mem_iff.1 hi
  have hnd : L.Nodup := hL.nodup_iff.2 List.nodup_range
  have hget : ∀ (M : List Nat), (∀ i ∈ M, i < r.lits.length) → ∀ j : Nat, (M.filterMap fun i => r.lits[i]?)[j]? = (M[j]?).bind fun i => r.lits[i]? := by
    intro M
    induction M with
    | nil => intro _ j; simp
    | cons a M ih =>
      intro hM j
      have ha := hM a (by simp)
      rw [List.filterMap_cons_some (List.getElem?_eq_getElem ha)]
      cases j with
      | zero => simp [List.getElem?_eq_getElem ha]
      | succ j => simpa using ih (fun i hi => hM i (by simp [hi])) j
  have hqlen : q.lits.length = r.lits.length := by
    have : ∀ (M : List Nat), (∀ i ∈ M, i < r.lits.length) → (M.filterMap fun i => r.lits[i]?).length = M.length := by
      intro M
      induction M with
      | nil => simp
      | cons a M ih =>
        intro hM
        rw [List.filterMap_cons_some (List.getElem?_eq_getElem (hM a (by simp)))]
        simp [ih (fun i hi => hM i (by simp [hi]))]
    rw [hq, this L hlt, hlen]
  have hmem : ∀ x, x ∈ q.lits ↔ x ∈ r.lits := by
    intro x
    rw [hq, List.mem_filterMap]
    constructor
    · rintro ⟨i, _, h⟩; exact List.mem_of_getElem? h
    · intro hx
      obtain ⟨i, hi, rfl⟩ := List.mem_iff_getElem.1 hx
      exact ⟨i, hL.mem_iff.2 (by simpa using hi), List.getElem?_eq_getElem hi⟩
  have hord : ofList (ordV q.lits) = ofList (ordV r.lits) := by
    funext x
    unfold ofList
    rw [decide_eq_decide, mem_ordV, mem_ordV]
    simp only [hmem]
  have hlat : ∀ x, x ∈ latV q.lits ↔ x ∈ latV r.lits := by
    intro x
    rw [mem_latV, mem_latV]
    simp only [hmem]
  have hsome : (order (ofList []) q.lits).isSome = (order (ofList []) r.lits).isSome := by
    rw [Bool.eq_iff_iff]
    constructor
    · refine order_some_map (f := fun j => (L[j]?).getD 0) hqlen.symm ?_ ?_
      · intro j hj
        rw [hqlen, ← hlen] at hj
        rw [hq, hget L hlt, List.getElem?_eq_getElem hj]
        simp
      · intro i j hi hj e
        rw [hqlen, ← hlen] at hi hj
        simp only [List.getElem?_eq_getElem hi, List.getElem?_eq_getElem hj, Option.getD_some] at e
        exact nodup_inj hnd hi hj e
    · refine order_some_map (f := fun i => L.idxOf i) hqlen ?_ ?_
      · intro i hi
        have him : i ∈ L := hL.mem_iff.2 (by simpa using hi)
        have hil := List.idxOf_lt_length_of_mem him
        rw [hq, hget L hlt, List.getElem?_eq_getElem hil]
        simp [List.getElem_idxOf hil]
      · intro i j hi hj e
        have him : i ∈ L := hL.mem_iff.2 (by simpa using hi)
        have hjm : j ∈ L := hL.mem_iff.2 (by simpa using hj)
        have h1 := List.getElem_idxOf (List.idxOf_lt_length_of_mem him)
        have h2 := List.getElem_idxOf (List.idxOf_lt_length_of_mem hjm)
        rw [← h1, ← h2]
        congr 1
  unfold safeP elemOk
  rw [hsome, hord, ht, hk, hv, decide_eq_decide.2 (hlat r.evar)]
end Go.Proofs.Ytnibgmmoebmnlaa
