/- Plain facts for the law SafetyVars: the lists of variables hold no blank name and none twice; when a literal that needs one variable may come last. -/
import Derived.Test.YtnibgmmoebmnlaaPlainB
namespace Go.Proofs.Ytnibgmmoebmnlaa
open Go.RowKit
theorem addN_nodup {l : List Nm} {x : Nm} (h : l.Nodup) : (addN l x).Nodup := by
  unfold addN
  split
  · exact h
  · rename_i hn
    rw [List.nodup_append]
    refine ⟨h, by simp, fun a ha b hb => ?_⟩
    obtain rfl : b = x := by simpa using hb
    exact fun e => hn (.inr (e ▸ ha))
theorem bindN_nodup (ts : List Tm) : ∀ {l : List Nm}, l.Nodup → (bindN l ts).Nodup := by
  induction ts with
  | nil => intro l h; exact h
  | cons t r ih => intro l h; exact ih (addN_nodup h)
theorem ordV_nodup (body : List Lt) : (ordV body).Nodup := by
  unfold ordV
  suffices ∀ l : List Nm, l.Nodup → (body.foldl (fun a q => bindN a q.targs) l).Nodup from this [] List.nodup_nil
  induction body with
  | nil => intro l h; exact h
  | cons q r ih => intro l h; exact ih _ (bindN_nodup _ h)
theorem latV_nodup (body : List Lt) : (latV body).Nodup := by
  unfold latV
  suffices ∀ l : List Nm, l.Nodup → (body.foldl (fun b q => if q.kind = 1 then addN b q.bind else b) l).Nodup from this [] List.nodup_nil
  induction body with
  | nil => intro l h; exact h
  | cons q r ih =>
    intro l h
    refine ih _ ?_
    dsimp only
    split
    · exact addN_nodup h
    · exact h
theorem ordV_le_go (body : List Lt) (h : ∀ q ∈ body, q.targs.length ≤ 6) : ∀ l : List Nm, (body.foldl (fun a q => bindN a q.targs) l).length ≤ l.length + 6 * body.length := by
  induction body with
  | nil => intro l; simp
  | cons q r ih =>
    intro l
    have := ih (fun x hx => h x (by simp [hx])) (bindN l q.targs)
    have h1 := bindN_le l q.targs
    have h2 := h q (by simp)
    simp only [List.foldl_cons, List.length_cons]; omega
theorem ordV_le {body : List Lt} (h : ∀ q ∈ body, q.targs.length ≤ 6) : (ordV body).length ≤ 6 * body.length := by
  have := ordV_le_go body h []
  unfold ordV
  simpa using this
theorem latV_le_go (body : List Lt) : ∀ l : List Nm, (body.foldl (fun b q => if q.kind = 1 then addN b q.bind else b) l).length ≤ l.length + body.length := by
  induction body with
  | nil => intro l; simp
  | cons q r ih =>
    intro l
    have := ih (if q.kind = 1 then addN l q.bind else l)
    have h1 : (if q.kind = 1 then addN l q.bind else l).length ≤ l.length + 1 := by
      split
      · exact addN_le _ _
      · omega
    simp only [List.foldl_cons, List.length_cons]; omega
theorem latV_le (body : List Lt) : (latV body).length ≤ body.length := by
  have := latV_le_go body []
  unfold latV
  simpa using this
theorem nodup_take {l : List Nm} (h : l.Nodup) {i : Nat} (hi : i < l.length) : l[i] ∉ l.take i := by
  intro hm
  obtain ⟨j, hj, e⟩ := List.mem_iff_getElem.1 hm
  rw [List.getElem_take] at e
  have hj' : j < i := by simp at hj; omega
  exact List.pairwise_iff_getElem.1 h j i (by omega) hi hj' e
theorem ordV_ne {body : List Lt} {i : Nat} (hi : i < (ordV body).length) : (ordV body)[i] ≠ noName := ((mem_ordV body _).1 (List.getElem_mem hi)).1
theorem latV_ne {body : List Lt} {i : Nat} (hi : i < (latV body).length) : (latV body)[i] ≠ noName := ((mem_latV body _).1 (List.getElem_mem hi)).1
theorem ordV_occurs {body : List Lt} {i : Nat} (hi : i < (ordV body).length) : (body.any fun q => q.targs.any fun t => decide (t.var = (ordV body)[i])) = true := by
  obtain ⟨-, q, hq, t, ht, e⟩ := (mem_ordV body _).1 (List.getElem_mem hi)
  exact List.any_eq_true.2 ⟨q, hq, List.any_eq_true.2 ⟨t, ht, by simp [e]⟩⟩
theorem latV_occurs {body : List Lt} {i : Nat} (hi : i < (latV body).length) : (body.any fun q => decide (q.kind = 1) && decide (q.bind = (latV body)[i])) = true := by
  obtain ⟨-, q, hq, hk, e⟩ := (mem_latV body _).1 (List.getElem_mem hi)
  exact List.any_eq_true.2 ⟨q, hq, by simp [hk, e]⟩
theorem hasV_append {body : List Lt} {q : Lt} {i : Nat} (hi : i < body.length) (x : Nm) : hasV (body ++ [q]) i x = hasV body i x := by
  unfold hasV
  rw [List.getElem?_append_left hi]
/-- A literal that needs one variable may come last if and only if the body or the given names have it. -/
theorem last_ready {s : Nm → Bool} {body : List Lt} {out : List Nat} {q : Lt} {t : Tm} {x : Nm} (h : order s body = some out) (hk : q.kind = 2) (ht : q.targs = [t]) (hx : t.var = x) (hne : x ≠ noName) :
    evaluable s (body ++ [q]) (zs out ++ [(body.length : Int)]) = (decide (x ∈ ordV body) || s x) := by
  obtain ⟨he, hlen⟩ := order_evaluable h
  have he' := he
  unfold evaluable at he
  simp only [Bool.and_eq_true, decide_eq_true_eq] at he
  have hnd := evalGo_nodup _ _ he.2
  rw [zs_toNat] at hnd
  have hlt : ∀ i ∈ out, i < body.length := fun i hi => by
    have := (hnd.2 (i : Int) (List.mem_map.2 ⟨i, hi, rfl⟩)).2.2
    simpa using this
  have hall : ∀ i, i < body.length → i ∈ out := by
    intro i hi
    apply Classical.byContradiction
    intro hn
    have := nodup_le (a := i :: out) (b := List.range body.length) (List.nodup_cons.2 ⟨hn, hnd.1⟩) (fun x hx => by
      rcases List.mem_cons.1 hx with rfl | hx
      · simpa using hi
      · simpa using hlt x hx)
    simp [hlen] at this
    omega
  have hmap := evalGo_map (s := s) (body := body) (body' := body ++ [q]) (f := id) (fun i hi => by simp [List.getElem?_append_left hi]) (fun _ _ _ _ e => e) (zs out) [] (by simp) he.2
  have hid : (zs out).map (fun i => ((id i.toNat : Nat) : Int)) = zs out := by simp [zs]
  rw [hid, List.map_nil] at hmap
  unfold evaluable
  rw [evalGo_append, hmap, Bool.true_and, zs_toNat, List.nil_append]
  have hl : decide ((zs out ++ [(body.length : Int)]).length = (body ++ [q]).length) = true := by simp [zs, hlen]
  rw [hl, Bool.true_and]
  simp only [evalGo, Bool.and_true]
  rw [stepOk_nat, cand_at _ _ _ _ (by simp)]
  have hno : body.length ∉ out := fun hm => by have := hlt _ hm; omega
  simp only [hno, decide_false, Bool.not_false, Bool.true_and, List.getElem_append_right (Nat.le_refl _), Nat.sub_self, List.getElem_cons_zero]
  unfold ready
  rw [if_neg (by rw [hk]; decide), if_neg (by rw [hk]; rintro ⟨h, _⟩; cases h), ht]
  simp only [List.any_cons, List.any_nil, Bool.or_false, lacks, hx]
  simp only [hne, ne_eq, not_false_eq_true, decide_true, Bool.true_and, Bool.not_not]
  rw [aft_or, Bool.or_comm]
  congr 1
  rw [Bool.eq_iff_iff, List.any_eq_true, decide_eq_true_eq, mem_ordV]
  constructor
  · rintro ⟨i, hi, hv⟩
    rw [hasV_append (hlt i hi)] at hv
    unfold hasV at hv
    rw [List.getElem?_eq_getElem (hlt i hi)] at hv
    simp only [Bool.and_eq_true, decide_eq_true_eq, List.any_eq_true] at hv
    obtain ⟨h1, t', ht', e⟩ := hv
    exact ⟨h1, _, List.getElem_mem (hlt i hi), t', ht', e⟩
  · rintro ⟨h1, q', hq', t', ht', e⟩
    obtain ⟨i, hi, rfl⟩ := List.mem_iff_getElem.1 hq'
    refine ⟨i, hall i hi, ?_⟩
    rw [hasV_append hi]
    unfold hasV
    rw [List.getElem?_eq_getElem hi]
    simp only [Bool.and_eq_true, decide_eq_true_eq, List.any_eq_true]
    exact ⟨h1, t', ht', e⟩
end Go.Proofs.Ytnibgmmoebmnlaa
