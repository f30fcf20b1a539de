/- Plain facts for the law SafetyNames: renaming all variables changes neither orders nor diagnostics. -/
import Derived.Test.YtnibgmmoebmnlaaPlainC
namespace Go.Proofs.Ytnibgmmoebmnlaa
open Go.RowKit
/-- A renaming: on the names that P admits it is one to one, and it keeps the blank name, and no other becomes blank. -/
structure Ren (P : Nm → Prop) (f : Nm → Nm) : Prop where
  inj : ∀ x y, P x → P y → f x = f y → x = y
  blank : f noName = noName
  pblank : P noName
section
variable {P : Nm → Prop} {f : Nm → Nm} {s s' : Nm → Bool}
theorem Ren.ne (h : Ren P f) {x : Nm} (hx : P x) : f x = noName ↔ x = noName := ⟨fun e => h.inj x noName hx h.pblank (by rw [e, h.blank]), fun e => by rw [e, h.blank]⟩
theorem Ren.eq (h : Ren P f) {x y : Nm} (hx : P x) (hy : P y) : f x = f y ↔ x = y := ⟨h.inj x y hx hy, fun e => by rw [e]⟩
def renT (f : Nm → Nm) (t : Tm) : Tm := { t with var := f t.var }
/-- What of a literal orders and variables look at. -/
def keyL (q : Lt) : Int × Int × List Tm × Nm := (q.kind, q.op, q.targs, q.bind)
def keyR (f : Nm → Nm) (q : Lt) : Int × Int × List Tm × Nm := (q.kind, q.op, q.targs.map (renT f), f q.bind)
def FitL (P : Nm → Prop) (q : Lt) : Prop := (∀ t ∈ q.targs, P t.var) ∧ P q.bind
def Same (P : Nm → Prop) (f : Nm → Nm) (s s' : Nm → Bool) : Prop := ∀ x, P x → x ≠ noName → s' (f x) = s x
theorem key_parts {q q' : Lt} (h : keyL q' = keyR f q) : q'.kind = q.kind ∧ q'.op = q.op ∧ q'.targs = q.targs.map (renT f) ∧ q'.bind = f q.bind := by
  simpa [keyL, keyR] using h
theorem lacks_ren (hR : Ren P f) (hs : Same P f s s') {t : Tm} (ht : P t.var) : lacks s' (renT f t) = lacks s t := by
  unfold lacks renT
  by_cases hb : t.var = noName
  · simp [hb, hR.blank]
  · have : f t.var ≠ noName := fun e => hb ((hR.ne ht).1 e)
    simp [hb, this, hs _ ht hb]
theorem any_ren (hR : Ren P f) (hs : Same P f s s') : ∀ {ts : List Tm}, (∀ t ∈ ts, P t.var) → (ts.map (renT f)).any (lacks s') = ts.any (lacks s)
  | [], _ => rfl
  | t :: r, h => by
    rw [List.map_cons, List.any_cons, List.any_cons, lacks_ren hR hs (h t (by simp)), any_ren hR hs (fun x hx => h x (by simp [hx]))]
theorem ready_ren (hR : Ren P f) (hs : Same P f s s') {q q' : Lt} (hq : FitL P q) (h : keyL q' = keyR f q) : ready s' q' = ready s q := by
  obtain ⟨h1, h2, h3, -⟩ := key_parts h
  unfold ready
  rw [h1, h2, h3, any_ren hR hs hq.1, List.length_map]
  split
  · rfl
  · split
    · rename_i h2'
      obtain ⟨a, b, hab⟩ : ∃ a b, q.targs = [a, b] := by
        match hq' : q.targs, h2'.2.2 with
        | [a, b], _ => exact ⟨a, b, rfl⟩
      have pa := lacks_ren hR hs (hq.1 a (by rw [hab]; simp))
      have pb := lacks_ren hR hs (hq.1 b (by rw [hab]; simp))
      simp [hab, pa, pb]
    · rfl
theorem addAll_ren (hR : Ren P f) (hs : Same P f s s') {ts : List Tm} (ht : ∀ t ∈ ts, P t.var) : Same P f (addAll s ts) (addAll s' (ts.map (renT f))) := by
  intro x hx hne
  unfold addAll
  have : f x ≠ noName := fun e => hne ((hR.ne hx).1 e)
  simp only [hs x hx hne, this, hne, ne_eq, not_false_eq_true, decide_true, Bool.true_and, List.any_map]
  congr 1
  rw [Bool.eq_iff_iff, List.any_eq_true, List.any_eq_true]
  constructor
  · rintro ⟨t, h, e⟩
    have e' : f t.var = f x := of_decide_eq_true e
    exact ⟨t, h, by simpa using (hR.eq (ht t h) hx).1 e'⟩
  · rintro ⟨t, h, e⟩
    exact ⟨t, h, by have : t.var = x := by simpa using e
                    simp [renT, this]⟩
/-- Bodies that differ by the renaming alone. -/
def RenB (f : Nm → Nm) (b b' : List Lt) : Prop := b'.map keyL = b.map (keyR f)
theorem RenB.len {b b' : List Lt} (h : RenB f b b') : b'.length = b.length := by
  have := congrArg List.length h
  simpa using this
theorem RenB.at_ {b b' : List Lt} (h : RenB f b b') {i : Nat} (hi : i < b.length) (hi' : i < b'.length) : keyL b'[i] = keyR f b[i] := by
  have := congrArg (fun l => l[i]?) h
  simpa [hi, hi'] using this
theorem aft_ren (hR : Ren P f) {b b' : List Lt} (hb : RenB f b b') (hf : ∀ q ∈ b, FitL P q) : ∀ (out : List Nat) {s s' : Nm → Bool}, Same P f s s' → Same P f (aft s b out) (aft s' b' out)
  | [], _, _, hs => hs
  | i :: r, s, s', hs => by
    have hcons : ∀ (s : Nm → Bool) (b : List Lt), aft s b (i :: r) = aft (match b[i]? with | some l => addAll s l.targs | none => s) b r := fun _ _ => rfl
    rw [hcons, hcons]
    refine aft_ren hR hb hf r ?_
    by_cases hi : i < b.length
    · have hi' : i < b'.length := by rw [hb.len]; exact hi
      rw [List.getElem?_eq_getElem hi, List.getElem?_eq_getElem hi']
      dsimp only
      rw [(key_parts (hb.at_ hi hi')).2.2.1]
      exact addAll_ren hR hs (hf _ (List.getElem_mem hi)).1
    · rw [List.getElem?_eq_none (by omega), List.getElem?_eq_none (by have := hb.len; omega)]
      exact hs
theorem cand_ren (hR : Ren P f) {b b' : List Lt} (hb : RenB f b b') (hf : ∀ q ∈ b, FitL P q) (hs : Same P f s s') (out : List Nat) (i : Nat) : cand s' b' out i = cand s b out i := by
  by_cases hi : i < b.length
  · have hi' : i < b'.length := by rw [hb.len]; exact hi
    rw [cand_at _ _ _ _ hi, cand_at _ _ _ _ hi', ready_ren hR (aft_ren hR hb hf out hs) (hf _ (List.getElem_mem hi)) (hb.at_ hi hi')]
  · have h1 : b[i]? = none := List.getElem?_eq_none (by omega)
    have h2 : b'[i]? = none := List.getElem?_eq_none (by have := hb.len; omega)
    unfold cand
    rw [h1, h2]
theorem orderGo_ren (hR : Ren P f) {b b' : List Lt} (hb : RenB f b b') (hf : ∀ q ∈ b, FitL P q) (hs : Same P f s s') : ∀ (n : Nat) (out : List Nat), orderGo s' b' n out = orderGo s b n out
  | 0, _ => rfl
  | n + 1, out => by
    unfold orderGo
    have : nextOf s' b' out = nextOf s b out := by
      unfold nextOf
      rw [hb.len]
      congr 1
      funext i
      exact cand_ren hR hb hf hs out i
    rw [this]
    cases nextOf s b out with
    | none => rfl
    | some i => exact orderGo_ren hR hb hf hs n (out ++ [i])
theorem order_ren (hR : Ren P f) {b b' : List Lt} (hb : RenB f b b') (hf : ∀ q ∈ b, FitL P q) (hs : Same P f s s') : order s' b' = order s b := by
  unfold order
  rw [hb.len]
  exact orderGo_ren hR hb hf hs _ _
/-! ### the lists of variables -/
theorem addN_ren (hR : Ren P f) {l : List Nm} {x : Nm} (hl : ∀ y ∈ l, P y) (hx : P x) : addN (l.map f) (f x) = (addN l x).map f ∧ ∀ y ∈ addN l x, P y := by
  have hm : f x ∈ l.map f ↔ x ∈ l := by
    rw [List.mem_map]
    exact ⟨fun ⟨y, hy, e⟩ => (hR.inj y x (hl y hy) hx e) ▸ hy, fun h => ⟨x, h, rfl⟩⟩
  unfold addN
  by_cases h : x = noName ∨ x ∈ l
  · rw [if_pos h, if_pos (by rw [hR.ne hx, hm]; exact h)]
    exact ⟨rfl, hl⟩
  · rw [if_neg h, if_neg (by rw [hR.ne hx, hm]; exact h)]
    refine ⟨by simp, fun y hy => ?_⟩
    rcases List.mem_append.1 hy with hy | hy
    · exact hl y hy
    · obtain rfl := List.mem_singleton.1 hy; exact hx
theorem bindN_ren (hR : Ren P f) : ∀ {ts : List Tm} {l : List Nm}, (∀ y ∈ l, P y) → (∀ t ∈ ts, P t.var) → bindN (l.map f) (ts.map (renT f)) = (bindN l ts).map f ∧ ∀ y ∈ bindN l ts, P y
  | [], l, hl, _ => ⟨rfl, hl⟩
  | t :: r, l, hl, ht => by
    obtain ⟨e, h⟩ := addN_ren hR hl (ht t (by simp))
    have hc : ∀ (l : List Nm) (t : Tm) (r : List Tm), bindN l (t :: r) = bindN (addN l t.var) r := fun _ _ _ => rfl
    rw [List.map_cons, hc, hc, show (renT f t).var = f t.var from rfl, e]
    exact bindN_ren hR h (fun x hx => ht x (by simp [hx]))
theorem ordV_go (hR : Ren P f) : ∀ {b b' : List Lt} {l : List Nm}, RenB f b b' → (∀ q ∈ b, FitL P q) → (∀ y ∈ l, P y) →
    b'.foldl (fun a q => bindN a q.targs) (l.map f) = (b.foldl (fun a q => bindN a q.targs) l).map f ∧ ∀ y ∈ b.foldl (fun a q => bindN a q.targs) l, P y
  | [], b', l, hb, _, hl => by
    have : b' = [] := List.eq_nil_of_length_eq_zero (by simpa using hb.len)
    subst this; exact ⟨rfl, hl⟩
  | q :: r, [], l, hb, _, _ => by have := hb.len; simp at this
  | q :: r, q' :: r', l, hb, hf, hl => by
    unfold RenB at hb
    rw [List.map_cons, List.map_cons, List.cons.injEq] at hb
    obtain ⟨e, h⟩ := bindN_ren hR hl (hf q (by simp)).1
    rw [List.foldl_cons, List.foldl_cons, (key_parts hb.1).2.2.1, e]
    exact ordV_go hR hb.2 (fun x hx => hf x (by simp [hx])) h
theorem ordV_ren (hR : Ren P f) {b b' : List Lt} (hb : RenB f b b') (hf : ∀ q ∈ b, FitL P q) : ordV b' = (ordV b).map f ∧ ∀ y ∈ ordV b, P y := ordV_go hR (l := []) hb hf (by simp)
theorem latV_go (hR : Ren P f) : ∀ {b b' : List Lt} {l : List Nm}, RenB f b b' → (∀ q ∈ b, FitL P q) → (∀ y ∈ l, P y) →
    b'.foldl (fun b q => if q.kind = 1 then addN b q.bind else b) (l.map f) = (b.foldl (fun b q => if q.kind = 1 then addN b q.bind else b) l).map f ∧ ∀ y ∈ b.foldl (fun b q => if q.kind = 1 then addN b q.bind else b) l, P y
  | [], b', l, hb, _, hl => by
    have : b' = [] := List.eq_nil_of_length_eq_zero (by simpa using hb.len)
    subst this; exact ⟨rfl, hl⟩
  | q :: r, [], l, hb, _, _ => by have := hb.len; simp at this
  | q :: r, q' :: r', l, hb, hf, hl => by
    unfold RenB at hb
    rw [List.map_cons, List.map_cons, List.cons.injEq] at hb
    obtain ⟨h1, -, -, h4⟩ := key_parts hb.1
    obtain ⟨e, h⟩ := addN_ren hR hl (hf q (by simp)).2
    rw [List.foldl_cons, List.foldl_cons]
    by_cases hk : q.kind = 1
    · rw [if_pos hk, if_pos (by rw [h1]; exact hk), h4, e]
      exact latV_go hR hb.2 (fun x hx => hf x (by simp [hx])) h
    · rw [if_neg hk, if_neg (by rw [h1]; exact hk)]
      exact latV_go hR hb.2 (fun x hx => hf x (by simp [hx])) hl
theorem latV_ren (hR : Ren P f) {b b' : List Lt} (hb : RenB f b b') (hf : ∀ q ∈ b, FitL P q) : latV b' = (latV b).map f ∧ ∀ y ∈ latV b, P y := latV_go hR (l := []) hb hf (by simp)
theorem mem_ren (hR : Ren P f) {l : List Nm} {x : Nm} (hl : ∀ y ∈ l, P y) (hx : P x) : f x ∈ l.map f ↔ x ∈ l := by
  rw [List.mem_map]
  exact ⟨fun ⟨y, hy, e⟩ => (hR.inj y x (hl y hy) hx e) ▸ hy, fun h => ⟨x, h, rfl⟩⟩
theorem safe_ren (hR : Ren P f) {r r' : Rl} (hb : RenB f r.lits r'.lits) (hf : ∀ q ∈ r.lits, FitL P q) (ht : r'.targs = r.targs.map (renT f)) (htp : ∀ t ∈ r.targs, P t.var) (hk : r'.ekind = r.ekind) (he : r'.evar = f r.evar) (hep : P r.evar) : safeP r' = safeP r := by
  obtain ⟨o1, o2⟩ := ordV_ren hR hb hf
  obtain ⟨l1, l2⟩ := latV_ren hR hb hf
  have hs : Same P f (ofList []) (ofList []) := fun x _ _ => by simp [ofList]
  have hs2 : Same P f (ofList (ordV r.lits)) (ofList (ordV r'.lits)) := fun x hx _ => by
    unfold ofList
    rw [o1]
    simp only [mem_ren hR o2 hx]
  unfold safeP elemOk
  rw [order_ren hR hb hf hs, ht, any_ren hR hs2 htp, hk, he, l1]
  simp only [mem_ren hR l2 hep]
/-- Names that the renaming keeps as a set, in whatever order, the blank one left out. -/
theorem same_list (hR : Ren P f) {l l' : List Nm} (hl : ∀ x ∈ l, P x) (h : ∀ y, y ∈ l' ↔ ∃ x, x ∈ l ∧ x ≠ noName ∧ f x = y) : Same P f (ofList l) (ofList l') := by
  intro x hx hne
  unfold ofList
  rw [decide_eq_decide, h]
  exact ⟨fun ⟨y, hy, _, e⟩ => (hR.inj y x (hl y hy) hx e) ▸ hy, fun h => ⟨x, h, hne, rfl⟩⟩
end
theorem order_set {s s' : Nm → Bool} (h : ∀ x, s x = s' x) (b : List Lt) : order s b = order s' b := by
  have : s = s' := funext h
  rw [this]
/-! ### the suffix -/
def fitS (s : Nm) (x : Nm) : Prop := x.1.size + s.1.size ≤ maxLen
def sufx (s : Nm) (x : Nm) : Nm := if x = noName then noName else if h : (x.1 ++ s.1).size ≤ maxLen then ⟨x.1 ++ s.1, h⟩ else x
theorem sufx_full {s x : Nm} (h : fitS s x) (hx : x ≠ noName) : (sufx s x).1 = x.1 ++ s.1 := by
  unfold sufx
  rw [if_neg hx, dif_pos (by rw [ByteArray.size_append]; exact h)]
theorem sufx_ren (s : Nm) : Ren (fitS s) (sufx s) where
  blank := by simp [sufx]
  pblank := by
    have := s.2
    unfold fitS
    have e : noName.1.size = 0 := rfl
    omega
  inj := by
    intro x y hx hy e
    have hne : ∀ z : Nm, fitS s z → z ≠ noName → (sufx s z) ≠ noName := by
      intro z hz hzn h0
      have h1 := sufx_full hz hzn
      rw [h0] at h1
      have h2 : (z.1 ++ s.1).size = 0 := by rw [← h1]; rfl
      rw [ByteArray.size_append] at h2
      apply hzn
      apply Nm.ext
      apply ByteArray.ext
      have h3 : z.1.data.size = 0 := by have : z.1.size = z.1.data.size := rfl; omega
      exact Array.eq_empty_of_size_eq_zero h3
    by_cases h1 : x = noName
    · by_cases h2 : y = noName
      · rw [h1, h2]
      · exact absurd (by rw [← e, h1]; simp [sufx]) (hne y hy h2)
    · by_cases h2 : y = noName
      · exact absurd (by rw [e, h2]; simp [sufx]) (hne x hx h1)
      · have h3 := sufx_full hx h1
        have h4 := sufx_full hy h2
        rw [e, h4] at h3
        apply bytes_inj
        have h5 := congrArg (fun b : ByteArray => b.data.toList) h3
        simp only [ByteArray.data_append, Array.toList_append] at h5
        exact (List.append_cancel_right h5).symm
end Go.Proofs.Ytnibgmmoebmnlaa
