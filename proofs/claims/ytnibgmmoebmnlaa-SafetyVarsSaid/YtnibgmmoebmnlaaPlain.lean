/- Orders of evaluation: the plain law. -/
import Derived.Test.YtnibgmmoebmnlaaWi
namespace Go.Proofs.Ytnibgmmoebmnlaa
open Go.RowKit
def hasV (body : List Lt) (i : Nat) (x : Nm) : Bool := match body[i]? with
  | some l => decide (x ≠ noName) && l.targs.any fun t => decide (t.var = x)
  | none => false
theorem aft_or (body : List Lt) (x : Nm) : ∀ (out : List Nat) (s : Nm → Bool), aft s body out x = (s x || out.any fun i => hasV body i x) := by
  intro out
  induction out with
  | nil => intro s; simp [aft]
  | cons i r ih =>
    intro s
    have e : aft s body (i :: r) = aft (match body[i]? with | some l => addAll s l.targs | none => s) body r := rfl
    rw [e, ih]
    cases h : body[i]? with
    | none => simp [hasV, h]
    | some l => simp [hasV, h, addAll, Bool.or_assoc]
theorem aft_mono {s s' : Nm → Bool} {body : List Lt} {d d' : List Nat} (hs : ∀ x, s x = true → s' x = true) (hd : ∀ i ∈ d, i ∈ d') : ∀ x, aft s body d x = true → aft s' body d' x = true := by
  intro x h
  rw [aft_or] at h ⊢
  rw [Bool.or_eq_true] at h ⊢
  rcases h with h | h
  · exact .inl (hs x h)
  · obtain ⟨i, hi, hv⟩ := List.any_eq_true.1 h
    exact .inr (List.any_eq_true.2 ⟨i, hd i hi, hv⟩)
theorem lacks_anti {s s' : Nm → Bool} (hs : ∀ x, s x = true → s' x = true) (t : Tm) (h : lacks s' t = true) : lacks s t = true := by
  unfold lacks at h ⊢
  rw [Bool.and_eq_true] at h ⊢
  refine ⟨h.1, ?_⟩
  cases hx : s t.var
  · rfl
  · have := hs _ hx; rw [this] at h; simp at h
theorem ready_mono {s s' : Nm → Bool} (hs : ∀ x, s x = true → s' x = true) (q : Lt) (h : ready s q = true) : ready s' q = true := by
  unfold ready at h ⊢
  split
  · rfl
  · rename_i h1
    rw [if_neg h1] at h
    split
    · rename_i h2
      rw [if_pos h2] at h
      obtain ⟨t, ht, hl⟩ := List.any_eq_true.1 h
      refine List.any_eq_true.2 ⟨t, ht, ?_⟩
      cases hx : lacks s' t
      · rfl
      · have := lacks_anti hs t hx; rw [this] at hl; simp at hl
    · rename_i h2
      rw [if_neg h2] at h
      rw [Bool.not_eq_true', List.any_eq_false] at h ⊢
      intro t ht hx
      exact h t ht (lacks_anti hs t hx)
theorem cand_lt {s : Nm → Bool} {body : List Lt} {d : List Nat} {i : Nat} (h : cand s body d i = true) : i < body.length := by
  rcases Nat.lt_or_ge i body.length with hl | hg
  · exact hl
  · simp [cand, List.getElem?_eq_none hg] at h
theorem cand_not {s : Nm → Bool} {body : List Lt} {d : List Nat} {i : Nat} (h : cand s body d i = true) : i ∉ d := by
  simp [cand] at h; exact h.1
theorem cand_mono {s s' : Nm → Bool} {body : List Lt} {d d' : List Nat} {i : Nat} (hs : ∀ x, s x = true → s' x = true) (hd : ∀ j ∈ d, j ∈ d') (hi : i ∉ d') (h : cand s body d i = true) : cand s' body d' i = true := by
  have hl := cand_lt h
  rw [cand_at _ _ _ _ hl] at h ⊢
  rw [Bool.and_eq_true] at h ⊢
  exact ⟨by simpa using hi, ready_mono (aft_mono hs hd) _ h.2⟩
theorem evalGo_append (s : Nm → Bool) (body : List Lt) : ∀ (a b : List Int) (d : List Nat), evalGo s body d (a ++ b) = (evalGo s body d a && evalGo s body (d ++ a.map Int.toNat) b)
  | [], b, d => by simp [evalGo]
  | i :: r, b, d => by
    simp only [List.cons_append, evalGo, List.map_cons]
    rw [evalGo_append s body r b (d ++ [i.toNat]), Bool.and_assoc]
    simp
theorem evalGo_mono {s s' : Nm → Bool} {body : List Lt} (hs : ∀ x, s x = true → s' x = true) : ∀ (m : List Int) (d d' : List Nat), (∀ j ∈ d, j ∈ d') → (∀ i ∈ m, i.toNat ∉ d') → (m.map Int.toNat).Nodup → evalGo s body d m = true → evalGo s' body d' m = true
  | [], _, _, _, _, _, _ => rfl
  | i :: r, d, d', hd, hn, hnd, h => by
    simp only [evalGo, Bool.and_eq_true] at h ⊢
    simp only [List.map_cons, List.nodup_cons] at hnd
    refine ⟨?_, evalGo_mono hs r (d ++ [i.toNat]) (d' ++ [i.toNat]) ?_ ?_ hnd.2 h.2⟩
    · unfold stepOk at h ⊢
      simp only [Bool.and_eq_true] at h ⊢
      exact ⟨h.1.1, cand_mono hs hd (hn i (by simp)) h.1.2⟩
    · intro j hj
      rcases List.mem_append.1 hj with h' | h'
      · exact List.mem_append.2 (.inl (hd j h'))
      · exact List.mem_append.2 (.inr h')
    · intro j hj hm
      rcases List.mem_append.1 hm with h' | h'
      · exact hn j (by simp [hj]) h'
      · have e : j.toNat = i.toNat := by simpa using h'
        exact hnd.1 (by rw [← e]; exact List.mem_map.2 ⟨j, hj, rfl⟩)
/-- What can be evaluated in turn names each literal at most once. -/
theorem evalGo_nodup {s : Nm → Bool} {body : List Lt} : ∀ (m : List Int) (d : List Nat), evalGo s body d m = true → (m.map Int.toNat).Nodup ∧ (∀ i ∈ m, i.toNat ∉ d ∧ 0 ≤ i ∧ i.toNat < body.length)
  | [], _, _ => ⟨by simp, by simp⟩
  | i :: r, d, h => by
    simp only [evalGo, Bool.and_eq_true] at h
    obtain ⟨h1, h2⟩ := evalGo_nodup r _ h.2
    unfold stepOk at h
    simp only [Bool.and_eq_true, decide_eq_true_eq] at h
    refine ⟨?_, ?_⟩
    · simp only [List.map_cons, List.nodup_cons]
      refine ⟨fun hm => ?_, h1⟩
      obtain ⟨j, hj, e⟩ := List.mem_map.1 hm
      exact (h2 j hj).1 (by rw [e]; simp)
    · intro j hj
      rcases List.mem_cons.1 hj with rfl | hj
      · exact ⟨cand_not h.1.2, h.1.1, cand_lt h.1.2⟩
      · exact ⟨fun hm => (h2 j hj).1 (List.mem_append.2 (.inl hm)), (h2 j hj).2⟩
theorem zs_toNat (l : List Nat) : (zs l).map Int.toNat = l := by
  induction l with
  | nil => rfl
  | cons a r ih =>
    have e : zs (a :: r) = (a : Int) :: zs r := rfl
    rw [e, List.map_cons, ih]; simp
theorem zs_append (a b : List Nat) : zs (a ++ b) = zs a ++ zs b := by simp [zs]
theorem orderGo_eval {s : Nm → Bool} {body : List Lt} : ∀ (f : Nat) (out res : List Nat), out.length + f = body.length → evalGo s body [] (zs out) = true → orderGo s body f out = some res → evalGo s body [] (zs res) = true ∧ res.length = body.length
  | 0, out, res, hl, he, ho => by
    have : out = res := by simpa [orderGo] using ho
    subst this
    exact ⟨he, by omega⟩
  | f + 1, out, res, hl, he, ho => by
    unfold orderGo at ho
    cases hn : nextOf s body out with
    | none => rw [hn] at ho; cases ho
    | some i =>
      rw [hn] at ho
      have hc : cand s body out i = true := by
        have := List.find?_some hn; exact this
      refine orderGo_eval f (out ++ [i]) res (by simp; omega) ?_ ho
      rw [zs_append, evalGo_append, he, zs_toNat]
      show (true && (stepOk s body out (i : Int) && evalGo s body _ [])) = true
      rw [stepOk_nat, hc]; rfl
theorem order_evaluable {s : Nm → Bool} {body : List Lt} {out : List Nat} (h : order s body = some out) : evaluable s body (zs out) = true ∧ out.length = body.length := by
  obtain ⟨h1, h2⟩ := orderGo_eval body.length [] out (by simp) rfl h
  exact ⟨by simp [evaluable, h1, zs_length, h2], h2⟩
theorem nodup_le {a b : List Nat} (ha : a.Nodup) (h : ∀ x ∈ a, x ∈ b) : a.length ≤ b.length := by
  induction a generalizing b with
  | nil => simp
  | cons x r ih =>
    simp only [List.nodup_cons] at ha
    have hx : x ∈ b := h x (by simp)
    have := ih (b := b.erase x) ha.2 (fun y hy => by
      have hne : y ≠ x := fun e => ha.1 (e ▸ hy)
      exact (List.mem_erase_of_ne hne).2 (h y (by simp [hy])))
    rw [List.length_erase_of_mem hx] at this
    have hp : 0 < b.length := List.length_pos_of_mem hx
    simp; omega
theorem cand_exists {s : Nm → Bool} {body : List Lt} {out : List Nat} : ∀ (m : List Int) (d : List Nat), evalGo s body d m = true → (∀ j ∈ d, j ∈ out) → (∃ i ∈ m, i.toNat ∉ out) → ∃ i, cand s body out i = true
  | [], _, _, _, h => by obtain ⟨i, hi, _⟩ := h; simp at hi
  | i :: r, d, h, hd, hx => by
    simp only [evalGo, Bool.and_eq_true] at h
    by_cases hi : i.toNat ∈ out
    · refine cand_exists r (d ++ [i.toNat]) h.2 ?_ ?_
      · intro j hj
        rcases List.mem_append.1 hj with h' | h'
        · exact hd j h'
        · have : j = i.toNat := by simpa using h'
          rw [this]; exact hi
      · obtain ⟨j, hj, hjn⟩ := hx
        rcases List.mem_cons.1 hj with rfl | hj
        · exact absurd hi hjn
        · exact ⟨j, hj, hjn⟩
    · unfold stepOk at h
      simp only [Bool.and_eq_true] at h
      exact ⟨_, cand_mono (fun _ h => h) hd hi h.1.2⟩
theorem next_exists {s : Nm → Bool} {body : List Lt} {out : List Nat} {m : List Int} (hm : evaluable s body m = true) (hl : out.length < body.length) : ∃ i, nextOf s body out = some i := by
  unfold evaluable at hm
  simp only [Bool.and_eq_true, decide_eq_true_eq] at hm
  obtain ⟨hnd, _⟩ := evalGo_nodup m [] hm.2
  have hx : ∃ i ∈ m, i.toNat ∉ out := by
    refine Classical.byContradiction fun hc => ?_
    have := nodup_le hnd (b := out) (fun x hx => by
      obtain ⟨i, hi, rfl⟩ := List.mem_map.1 hx
      exact Classical.byContradiction fun hn => hc ⟨i, hi, hn⟩)
    simp at this; omega
  obtain ⟨i, hi⟩ := cand_exists m [] hm.2 (by simp) hx
  cases hn : nextOf s body out with
  | some j => exact ⟨j, rfl⟩
  | none =>
    have := List.find?_eq_none.1 hn i (List.mem_range.2 (cand_lt hi))
    exact absurd hi this
theorem orderGo_total {s : Nm → Bool} {body : List Lt} {m : List Int} (hm : evaluable s body m = true) : ∀ (f : Nat) (out : List Nat), out.length + f = body.length → ∃ res, orderGo s body f out = some res
  | 0, out, _ => ⟨out, rfl⟩
  | f + 1, out, hl => by
    obtain ⟨i, hi⟩ := next_exists (out := out) hm (by omega)
    obtain ⟨res, hr⟩ := orderGo_total hm f (out ++ [i]) (by simp; omega)
    exact ⟨res, by simp [orderGo, hi, hr]⟩
theorem orderGo_prefix {s : Nm → Bool} {body : List Lt} : ∀ (f : Nat) (out res : List Nat), orderGo s body f out = some res → ∃ rest, res = out ++ rest
  | 0, out, res, h => ⟨[], by simpa [orderGo] using h.symm⟩
  | f + 1, out, res, h => by
    unfold orderGo at h
    cases hn : nextOf s body out with
    | none => rw [hn] at h; cases h
    | some i =>
      rw [hn] at h
      obtain ⟨rest, e⟩ := orderGo_prefix f _ _ h
      exact ⟨i :: rest, by rw [e]; simp⟩
/-- Is a less than b, at the first place where they differ? -/
def lessP : List Int → List Int → Bool
  | a :: ra, b :: rb => if a = b then lessP ra rb else decide (a < b)
  | _, _ => false
theorem not_less {s : Nm → Bool} {body : List Lt} : ∀ (m : List Int) (f : Nat) (d rest : List Nat), evalGo s body d m = true → orderGo s body f d = some (d ++ rest) → lessP m (zs rest) = false
  | [], _, _, rest, _, _ => by cases rest <;> rfl
  | i :: r, f, d, [], _, _ => rfl
  | i :: r, f, d, j :: rest, h, ho => by
    cases f with
    | zero => simp [orderGo] at ho
    | succ f =>
      unfold orderGo at ho
      cases hn : nextOf s body d with
      | none => rw [hn] at ho; cases ho
      | some k =>
        rw [hn] at ho
        obtain ⟨rest', e⟩ := orderGo_prefix f _ _ ho
        have e' : j :: rest = k :: rest' := by simpa using e
        obtain ⟨rfl, rfl⟩ : j = k ∧ rest = rest' := by simpa using e'
        simp only [evalGo, Bool.and_eq_true] at h
        have hz : zs (j :: rest) = (j : Int) :: zs rest := rfl
        rw [hz]
        unfold lessP
        by_cases hij : i = (j : Int)
        · rw [if_pos hij]
          subst hij
          refine not_less r f (d ++ [j]) rest (by simpa using h.2) (by simpa using ho)
        · rw [if_neg hij]
          unfold stepOk at h
          simp only [Bool.and_eq_true, decide_eq_true_eq] at h
          rw [decide_eq_false_iff_not]
          intro hlt
          obtain ⟨_, p, hp, hpe, hbefore⟩ := List.find?_eq_some_iff_getElem.1 hn
          have hpj : p = j := by simpa using hpe
          subst hpj
          have := hbefore i.toNat (by omega)
          simp [h.1.2] at this
theorem order_least {s : Nm → Bool} {body : List Lt} {m : List Int} (hm : evaluable s body m = true) : ∃ out, order s body = some out ∧ out.length = m.length ∧ lessP m (zs out) = false := by
  obtain ⟨out, ho⟩ := orderGo_total hm body.length [] (by simp)
  have hm' := hm
  unfold evaluable at hm'
  simp only [Bool.and_eq_true, decide_eq_true_eq] at hm'
  exact ⟨out, ho, by rw [(order_evaluable ho).2, hm'.1], not_less m body.length [] out hm'.2 (by simpa using ho)⟩
theorem evaluable_mono {s s' : Nm → Bool} {body : List Lt} {m : List Int} (hs : ∀ x, s x = true → s' x = true) (h : evaluable s body m = true) : evaluable s' body m = true := by
  unfold evaluable at h ⊢
  simp only [Bool.and_eq_true] at h ⊢
  exact ⟨h.1, evalGo_mono hs m [] [] (by simp) (by simp) (evalGo_nodup m [] h.2).1 h.2⟩
theorem moved_eval {s : Nm → Bool} {body : List Lt} {a b c : List Int} {x : Int} (h : evaluable s body (a ++ b ++ [x] ++ c) = true) (hr : ∀ hx : x.toNat < body.length, ready (aft s body (a.map Int.toNat)) body[x.toNat] = true) : evaluable s body (a ++ [x] ++ b ++ c) = true := by
  unfold evaluable at h ⊢
  simp only [Bool.and_eq_true, decide_eq_true_eq] at h ⊢
  refine ⟨by rw [← h.1]; simp; omega, ?_⟩
  have h2 := h.2
  obtain ⟨hnd, hall⟩ := evalGo_nodup _ _ h2
  rw [evalGo_append, evalGo_append, evalGo_append] at h2
  simp only [Bool.and_eq_true, List.nil_append, List.map_append] at h2
  obtain ⟨⟨⟨ha, hb⟩, hx⟩, hc⟩ := h2
  simp only [evalGo, Bool.and_true] at hx
  unfold stepOk at hx
  simp only [Bool.and_eq_true, decide_eq_true_eq] at hx
  have hxl := cand_lt hx.2
  have hxn := cand_not hx.2
  have hxa : x.toNat ∉ a.map Int.toNat := fun h' => hxn (by rw [List.mem_append]; exact .inl h')
  have hxb : x.toNat ∉ b.map Int.toNat := fun h' => hxn (by rw [List.mem_append]; exact .inr h')
  rw [evalGo_append, evalGo_append, evalGo_append]
  simp only [Bool.and_eq_true, List.nil_append, List.map_append]
  obtain ⟨hndb, hbn⟩ := evalGo_nodup b _ hb
  obtain ⟨hndc, hcn⟩ := evalGo_nodup c _ hc
  refine ⟨⟨⟨ha, ?_⟩, ?_⟩, ?_⟩
  · simp only [evalGo, Bool.and_true]
    unfold stepOk
    simp only [Bool.and_eq_true, decide_eq_true_eq]
    refine ⟨hx.1, ?_⟩
    rw [cand_at _ _ _ _ hxl, hr hxl]
    simpa using hxa
  · refine evalGo_mono (fun _ h => h) b _ _ (fun j hj => List.mem_append.2 (.inl hj)) (fun i hi hm => ?_) hndb hb
    rcases List.mem_append.1 hm with h' | h'
    · exact (hbn i hi).1 h'
    · have e : i.toNat = x.toNat := by simpa using h'
      exact hxb (List.mem_map.2 ⟨i, hi, e⟩)
  · refine evalGo_mono (fun _ h => h) c _ _ (fun j hj => ?_) (fun i hi hm => ?_) hndc hc
    · simp only [List.mem_append, List.map_cons, List.map_nil, List.mem_singleton] at hj ⊢
      rcases hj with (h | h) | h
      · exact .inl (.inl h)
      · exact .inr h
      · exact .inl (.inr h)
    · refine (hcn i hi).1 ?_
      simp only [List.mem_append, List.map_cons, List.map_nil, List.mem_singleton] at hm ⊢
      rcases hm with (h | h) | h
      · exact .inl (.inl h)
      · exact .inr h
      · exact .inl (.inr h)
end Go.Proofs.Ytnibgmmoebmnlaa
