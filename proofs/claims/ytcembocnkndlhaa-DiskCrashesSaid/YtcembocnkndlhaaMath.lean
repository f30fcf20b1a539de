/- Disks in plain Lean: pages, writes, crashes; what the functions of layer 35 compute. -/
namespace Go.Proofs.Ytcembocnkndlhaa
structure Wt where
  at_ : Int
  data : List UInt8
theorem Wt.ext' {x y : Wt} (h : x.at_ = y.at_) (k : x.data = y.data) : x = y := by cases x; cases y; simp at h k; subst h k; rfl
instance : DecidableEq Wt := fun x y => if h : x.at_ = y.at_ ∧ x.data = y.data then isTrue (Wt.ext' h.1 h.2) else isFalse fun e => h (by subst e; exact ⟨rfl, rfl⟩)
structure Dk where
  pages : List (List UInt8)
  writes : List Wt
  down : Bool
theorem Dk.ext' {x y : Dk} (h : x.pages = y.pages) (k : x.writes = y.writes) (l : x.down = y.down) : x = y := by cases x; cases y; simp at h k l; subst h k l; rfl
instance : DecidableEq Dk := fun x y => if h : x.pages = y.pages ∧ x.writes = y.writes ∧ x.down = y.down then isTrue (Dk.ext' h.1 h.2.1 h.2.2) else isFalse fun e => h (by subst e; exact ⟨rfl, rfl, rfl⟩)
def noDisk : Dk := ⟨[], [], false⟩
def zeros (n : Nat) : List UInt8 := List.replicate n 0
/-- A page that begins with some bytes. -/
def full (b : List UInt8) : List UInt8 := b.take 64 ++ zeros (64 - b.length)
/-- The reference's. -/
def rfull (b : List UInt8) : List UInt8 := b ++ zeros (64 - b.length)
theorem full_rfull {b : List UInt8} (h : b.length ≤ 64) : full b = rfull b := by
  unfold full rfull; rw [List.take_of_length_le h]
theorem length_full (b : List UInt8) : (full b).length = 64 := by simp [full, zeros]; omega
theorem full_self {b : List UInt8} (h : b.length = 64) : full b = b := by
  unfold full zeros; rw [List.take_of_length_le (by omega), h]; simp
theorem rfull_self {b : List UInt8} (h : b.length = 64) : rfull b = b := by
  unfold rfull zeros; rw [h]; simp
/-- The first n bytes of data laid over a page. -/
def over (data p : List UInt8) (n : Nat) : List UInt8 := data.take n ++ p.drop n
/-- The pages with one more of zeros at the end, so long as there are at most k. -/
def grow (ps : List (List UInt8)) (k : Nat) : List (List UInt8) := ps ++ List.replicate (k - ps.length) (full [])
def put (ps : List (List UInt8)) (k : Nat) (data : List UInt8) (n : Nat) : List (List UInt8) := (grow ps (k + 1)).modify k fun p => over data p n
def replay (ps : List (List UInt8)) (ws : List Wt) : List (List UInt8) := ws.foldl (fun ps w => put ps w.at_.toNat w.data 64) ps
theorem replay_snoc (ps : List (List UInt8)) (ws : List Wt) (w : Wt) : replay ps (ws ++ [w]) = put (replay ps ws) w.at_.toNat w.data 64 := by simp [replay]
theorem replay_append (ps : List (List UInt8)) (ws vs : List Wt) : replay ps (ws ++ vs) = replay (replay ps ws) vs := by simp [replay]
def badPage (b : List UInt8) : Bool := decide (b.length ≠ 64)
def odd (w : Wt) : Bool := decide (w.at_ < 0) || decide (w.at_ ≥ 400) || badPage w.data
def formed (d : Dk) : Bool := decide (d.pages.length ≤ 400) && !d.pages.any badPage && !d.writes.any odd && !(d.down && decide (d.writes.length > 0))
def failure (d : Dk) (k : Int) : Int := if (!formed d || decide (k < 0) || decide (k ≥ 400)) = true then 1 else if d.down = true then 350 else 0
def writeD (d : Dk) (k : Int) (data : List UInt8) : Dk × Int :=
  if data.length > 64 then (noDisk, 1) else if failure d k ≠ 0 then (noDisk, failure d k) else (⟨d.pages, d.writes ++ [⟨k, full data⟩], d.down⟩, 0)
def syncD (d : Dk) : Dk × Int := if failure d 0 ≠ 0 then (noDisk, failure d 0) else (⟨replay d.pages d.writes, [], false⟩, 0)
/-- What Read looks for. -/
def look (d : Dk) (k : Int) : List UInt8 :=
  match d.writes.reverse.find? (fun w => decide (w.at_ = k)) with
  | some w => full w.data
  | none => if k < d.pages.length then full (d.pages.getD k.toNat []) else full []
def readD (d : Dk) (k : Int) : List UInt8 × Int := if failure d k ≠ 0 then ([], failure d k) else (look d k, 0)
/-- How many writes a crash keeps. -/
def kept (d : Dk) (keep : Int) : Nat := (max 0 (min keep d.writes.length)).toNat
/-- The pages after a crash. -/
def broken (d : Dk) (keep torn : Int) : List (List UInt8) :=
  match d.writes[kept d keep]? with
  | some w => if torn > 0 then put (replay d.pages (d.writes.take (kept d keep))) w.at_.toNat w.data (min torn 64).toNat else replay d.pages (d.writes.take (kept d keep))
  | none => replay d.pages (d.writes.take (kept d keep))
def crashD (d : Dk) (keep torn : Int) : Dk := if formed d = true then ⟨broken d keep torn, [], true⟩ else noDisk
def restartD (d : Dk) : Dk := if formed d = true then ⟨d.pages, d.writes, false⟩ else noDisk
/-! ### pages by their numbers -/
def pg (ps : List (List UInt8)) (i : Nat) : List UInt8 := ps.getD i (full [])
theorem pg_lt {ps : List (List UInt8)} {i : Nat} (h : i < ps.length) : pg ps i = ps[i] := by
  unfold pg; rw [List.getD_eq_getElem?_getD, List.getElem?_eq_getElem h]; rfl
theorem pg_ge {ps : List (List UInt8)} {i : Nat} (h : ps.length ≤ i) : pg ps i = full [] := by
  unfold pg; rw [List.getD_eq_getElem?_getD, List.getElem?_eq_none h]; rfl
theorem pages_ext {ps qs : List (List UInt8)} (h : ps.length = qs.length) (k : ∀ i, pg ps i = pg qs i) : ps = qs :=
  List.ext_getElem h fun i h1 h2 => by rw [← pg_lt h1, ← pg_lt h2]; exact k i
theorem length_grow (ps : List (List UInt8)) (k : Nat) : (grow ps k).length = max ps.length k := by simp [grow]; omega
theorem pg_grow (ps : List (List UInt8)) (k i : Nat) : pg (grow ps k) i = pg ps i := by
  unfold pg grow
  simp only [List.getD_eq_getElem?_getD, List.getElem?_append]
  split
  · rfl
  · rename_i h
    rw [List.getElem?_eq_none (l := ps) (by omega), List.getElem?_replicate]
    split <;> rfl
theorem length_put (ps : List (List UInt8)) (k : Nat) (data : List UInt8) (n : Nat) : (put ps k data n).length = max ps.length (k + 1) := by
  unfold put; rw [List.length_modify, length_grow]
theorem pg_put (ps : List (List UInt8)) (k : Nat) (data : List UInt8) (n i : Nat) : pg (put ps k data n) i = if i = k then over data (pg ps k) n else pg ps i := by
  by_cases e : i = k
  · subst e
    have h : i < (grow ps (i + 1)).length := by rw [length_grow]; omega
    rw [if_pos rfl, ← pg_grow ps (i + 1) i, pg_lt h]
    unfold pg put
    rw [List.getD_eq_getElem?_getD, List.getElem?_modify, List.getElem?_eq_getElem h]
    simp
  · rw [if_neg e, ← pg_grow ps (k + 1) i]
    unfold pg put
    rw [List.getD_eq_getElem?_getD, List.getD_eq_getElem?_getD, List.getElem?_modify]
    simp [Ne.symm e]
def Wide (ps : List (List UInt8)) : Prop := ∀ p ∈ ps, p.length = 64
theorem wide_pg {ps : List (List UInt8)} (h : Wide ps) (i : Nat) : (pg ps i).length = 64 := by
  rcases Nat.lt_or_ge i ps.length with k | k
  · rw [pg_lt k]; exact h _ (List.getElem_mem k)
  · rw [pg_ge k]; exact length_full _
theorem wide_of {ps : List (List UInt8)} (h : ∀ i, (pg ps i).length = 64) : Wide ps := by
  intro p hp
  obtain ⟨i, hi, rfl⟩ := List.getElem_of_mem hp
  rw [← pg_lt hi]; exact h i
theorem length_over {data p : List UInt8} {n : Nat} (hd : data.length = 64) (hp : p.length = 64) (hn : n ≤ 64) : (over data p n).length = 64 := by
  simp [over]; omega
theorem over_all {data p : List UInt8} (hd : data.length = 64) (hp : p.length = 64) : over data p 64 = data := by
  unfold over; rw [List.take_of_length_le (by omega), List.drop_of_length_le (by omega), List.append_nil]
theorem over_none (data p : List UInt8) : over data p 0 = p := by simp [over]
theorem wide_put {ps : List (List UInt8)} (h : Wide ps) {k : Nat} {data : List UInt8} (hd : data.length = 64) {n : Nat} (hn : n ≤ 64) : Wide (put ps k data n) := by
  refine wide_of fun i => ?_
  rw [pg_put]
  split
  · exact length_over hd (wide_pg h _) hn
  · exact wide_pg h i
theorem wide_replay {ws : List Wt} : ∀ {ps : List (List UInt8)}, Wide ps → (∀ w ∈ ws, w.data.length = 64) → Wide (replay ps ws) := by
  induction ws with
  | nil => intro ps h _; exact h
  | cons w r ih =>
    intro ps h k
    show Wide (replay (put ps w.at_.toNat w.data 64) r)
    exact ih (wide_put h (k w (by simp)) (Nat.le_refl _)) fun x hx => k x (by simp [hx])
/-! ### well-formed disks -/
theorem formed_iff (d : Dk) : formed d = true ↔ d.pages.length ≤ 400 ∧ Wide d.pages ∧ (∀ w ∈ d.writes, 0 ≤ w.at_ ∧ w.at_ < 400 ∧ w.data.length = 64) ∧ (d.down = true → d.writes = []) := by
  unfold formed
  simp only [Bool.and_eq_true, decide_eq_true_eq, Bool.not_eq_true', List.any_eq_false]
  constructor
  · rintro ⟨⟨⟨h1, h2⟩, h3⟩, h4⟩
    refine ⟨h1, fun p hp => ?_, fun w hw => ?_, fun hd => ?_⟩
    · have := h2 p hp; simpa [badPage] using this
    · have := h3 w hw
      simp [odd, badPage] at this
      omega
    · rw [hd] at h4
      simpa using h4
  · rintro ⟨h1, h2, h3, h4⟩
    refine ⟨⟨⟨h1, fun p hp => ?_⟩, fun w hw => ?_⟩, ?_⟩
    · have := h2 p hp; simpa [badPage] using this
    · have := h3 w hw; simp [odd, badPage]; omega
    · cases hd : d.down
      · rfl
      · rw [h4 hd]; rfl
theorem failure_ok {d : Dk} {k : Int} (h : formed d = true) (hd : d.down = false) (h0 : 0 ≤ k) (h1 : k < 400) : failure d k = 0 := by
  unfold failure; rw [if_neg (by simp [h]; omega), if_neg (by simp [hd])]
theorem failure_down {d : Dk} {k : Int} (h : formed d = true) (hd : d.down = true) (h0 : 0 ≤ k) (h1 : k < 400) : failure d k = 350 := by
  unfold failure; rw [if_neg (by simp [h]; omega), if_pos hd]
theorem failure_zero {d : Dk} {k : Int} (h : failure d k = 0) : formed d = true ∧ d.down = false ∧ 0 ≤ k ∧ k < 400 := by
  unfold failure at h
  split at h
  · omega
  · split at h
    · omega
    · rename_i a b
      simp at a
      exact ⟨a.1.1, by simpa using b, a.1.2, a.2⟩
theorem look_snoc (ps : List (List UInt8)) (ws : List Wt) (w : Wt) (dn : Bool) (k : Int) : look ⟨ps, ws ++ [w], dn⟩ k = if w.at_ = k then full w.data else look ⟨ps, ws, dn⟩ k := by
  unfold look
  rw [List.reverse_append]
  simp only [List.reverse_cons, List.reverse_nil, List.nil_append, List.singleton_append, List.find?_cons]
  by_cases e : w.at_ = k
  · rw [if_pos e]; simp [e]
  · rw [if_neg e]; simp [e]
theorem look_nil (ps : List (List UInt8)) (dn : Bool) (k : Int) (h0 : 0 ≤ k) (hw : Wide ps) : look ⟨ps, [], dn⟩ k = pg ps k.toNat := by
  show (if k < ps.length then full (ps.getD k.toNat []) else full []) = _
  split
  · rename_i h
    rw [pg_lt (show k.toNat < ps.length by omega), List.getD_eq_getElem?_getD, List.getElem?_eq_getElem (show k.toNat < ps.length by omega)]
    exact full_self (hw _ (List.getElem_mem _))
  · rw [pg_ge (by omega)]
theorem rev_ind {α : Type} {p : List α → Prop} (nil : p []) (snoc : ∀ r x, p r → p (r ++ [x])) (l : List α) : p l := by
  have : ∀ r : List α, p r.reverse := by
    intro r
    induction r with
    | nil => exact nil
    | cons x s ih => rw [List.reverse_cons]; exact snoc _ _ ih
  have h := this l.reverse
  rwa [List.reverse_reverse] at h
/-- Read sees the pages after all writes. -/
theorem look_replay (ps : List (List UInt8)) (dn : Bool) (k : Int) (h0 : 0 ≤ k) (hw : Wide ps) (ws : List Wt) : (∀ w ∈ ws, 0 ≤ w.at_ ∧ w.data.length = 64) → look ⟨ps, ws, dn⟩ k = pg (replay ps ws) k.toNat := by
  induction ws using rev_ind with
  | nil => intro _; exact look_nil ps dn k h0 hw
  | snoc r w ih =>
    intro hws
    have h1 := hws w (by simp)
    have h2 : ∀ x ∈ r, 0 ≤ x.at_ ∧ x.data.length = 64 := fun x hx => hws x (by simp [hx])
    rw [look_snoc, replay_snoc, pg_put, ih h2]
    by_cases e : w.at_ = k
    · rw [if_pos e, if_pos (by omega), full_self h1.2, over_all h1.2 (wide_pg (wide_replay hw fun x hx => (h2 x hx).2) _)]
    · rw [if_neg e, if_neg (by omega)]
end Go.Proofs.Ytcembocnkndlhaa
