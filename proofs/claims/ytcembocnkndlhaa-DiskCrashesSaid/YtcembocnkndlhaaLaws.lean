/- The laws of layer 35 in plain Lean. -/
import Derived.Test.YtcembocnkndlhaaMath
namespace Go.Proofs.Ytcembocnkndlhaa
theorem writeD_ok {d : Dk} {k : Int} {data : List UInt8} (hf : formed d = true) (hd : d.down = false) (h0 : 0 ≤ k) (h1 : k < 400) (hl : data.length ≤ 64) : writeD d k data = (⟨d.pages, d.writes ++ [⟨k, full data⟩], d.down⟩, 0) := by
  unfold writeD
  rw [if_neg (by omega), if_neg (by rw [failure_ok hf hd h0 h1]; simp)]
theorem formed_write {d : Dk} {k : Int} {data : List UInt8} (hf : formed d = true) (hd : d.down = false) (h0 : 0 ≤ k) (h1 : k < 400) : formed ⟨d.pages, d.writes ++ [⟨k, full data⟩], d.down⟩ = true := by
  rw [formed_iff] at hf ⊢
  obtain ⟨a, b, c, e⟩ := hf
  refine ⟨a, b, fun w hw => ?_, fun x => absurd x (by simp [hd])⟩
  rcases List.mem_append.1 hw with hw | hw
  · exact c w hw
  · obtain rfl : w = ⟨k, full data⟩ := by simpa using hw
    exact ⟨h0, h1, length_full _⟩
theorem readD_ok {d : Dk} {k : Int} (hf : formed d = true) (hd : d.down = false) (h0 : 0 ≤ k) (h1 : k < 400) : readD d k = (look d k, 0) := by
  unfold readD; rw [if_neg (by rw [failure_ok hf hd h0 h1]; simp)]
theorem length_look (d : Dk) (k : Int) : (look d k).length = 64 := by
  unfold look
  split
  · exact length_full _
  · split <;> exact length_full _
theorem syncD_ok {d : Dk} (hf : formed d = true) (hd : d.down = false) : syncD d = (⟨replay d.pages d.writes, [], false⟩, 0) := by
  unfold syncD; rw [if_neg (by rw [failure_ok hf hd (by omega) (by omega)]; simp)]
theorem look_eq {d : Dk} (hf : formed d = true) {k : Int} (h0 : 0 ≤ k) : look d k = pg (replay d.pages d.writes) k.toNat := by
  obtain ⟨a, b, c, e⟩ := (formed_iff d).1 hf
  exact look_replay d.pages d.down k h0 b d.writes fun w hw => ⟨(c w hw).1, (c w hw).2.2⟩
theorem length_replay {ws : List Wt} (h : ∀ w ∈ ws, 0 ≤ w.at_ ∧ w.at_ < 400) : ∀ {ps : List (List UInt8)}, ps.length ≤ 400 → (replay ps ws).length ≤ 400 := by
  induction ws with
  | nil => intro ps hp; exact hp
  | cons w r ih =>
    intro ps hp
    show (replay (put ps w.at_.toNat w.data 64) r).length ≤ 400
    refine ih (fun x hx => h x (by simp [hx])) ?_
    have := h w (by simp)
    rw [length_put]; omega
theorem wide_of_formed {d : Dk} (hf : formed d = true) (n : Nat) : Wide (replay d.pages (d.writes.take n)) ∧ (replay d.pages (d.writes.take n)).length ≤ 400 := by
  obtain ⟨a, b, c, e⟩ := (formed_iff d).1 hf
  exact ⟨wide_replay b fun w hw => (c w (List.mem_of_mem_take hw)).2.2, length_replay (fun w hw => ⟨(c w (List.mem_of_mem_take hw)).1, (c w (List.mem_of_mem_take hw)).2.1⟩) a⟩
theorem formed_pages {ps : List (List UInt8)} {dn : Bool} (h : Wide ps) (k : ps.length ≤ 400) : formed ⟨ps, [], dn⟩ = true :=
  (formed_iff _).2 ⟨k, h, by simp, fun _ => rfl⟩
theorem formed_sync {d : Dk} (hf : formed d = true) : formed ⟨replay d.pages d.writes, [], false⟩ = true := by
  have := wide_of_formed hf d.writes.length
  rw [List.take_length] at this
  exact formed_pages this.1 this.2
theorem look_sync {d : Dk} (hf : formed d = true) {k : Int} (h0 : 0 ≤ k) : look ⟨replay d.pages d.writes, [], false⟩ k = look d k := by
  rw [look_eq hf h0, look_eq (formed_sync hf) h0]; rfl
theorem kept_le (d : Dk) (keep : Int) : kept d keep ≤ d.writes.length := by unfold kept; omega
theorem crashD_dry {ps : List (List UInt8)} {dn : Bool} (hf : formed ⟨ps, [], dn⟩ = true) (keep torn : Int) : crashD ⟨ps, [], dn⟩ keep torn = ⟨ps, [], true⟩ := by
  unfold crashD; rw [if_pos hf]; simp [broken, replay]
theorem restartD_ok {d : Dk} (hf : formed d = true) : restartD d = ⟨d.pages, d.writes, false⟩ := by unfold restartD; rw [if_pos hf]
theorem crashD_ok {d : Dk} (hf : formed d = true) (keep torn : Int) : crashD d keep torn = ⟨broken d keep torn, [], true⟩ := by unfold crashD; rw [if_pos hf]
theorem broken_wide {d : Dk} (hf : formed d = true) (keep torn : Int) : Wide (broken d keep torn) ∧ (broken d keep torn).length ≤ 400 := by
  obtain ⟨h1, h2⟩ := wide_of_formed hf (kept d keep)
  obtain ⟨a, b, c, e⟩ := (formed_iff d).1 hf
  unfold broken
  split
  · rename_i w hw
    have := c w (List.mem_of_getElem? hw)
    split
    · exact ⟨wide_put h1 this.2.2 (by omega), by rw [length_put]; omega⟩
    · exact ⟨h1, h2⟩
  · exact ⟨h1, h2⟩
theorem formed_crash {d : Dk} (hf : formed d = true) (keep torn : Int) (dn : Bool) : formed ⟨broken d keep torn, [], dn⟩ = true :=
  formed_pages (broken_wide hf keep torn).1 (broken_wide hf keep torn).2
/-- The page that a crash tears. -/
theorem look_broken {d : Dk} (hf : formed d = true) (keep torn : Int) {k : Int} (h0 : 0 ≤ k) :
    look ⟨broken d keep torn, [], false⟩ k = match d.writes[kept d keep]? with
      | some w => if w.at_ = k then over w.data (look ⟨d.pages, d.writes.take (kept d keep), false⟩ k) (max 0 (min torn 64)).toNat else look ⟨d.pages, d.writes.take (kept d keep), false⟩ k
      | none => look ⟨d.pages, d.writes.take (kept d keep), false⟩ k := by
  obtain ⟨h1, h2⟩ := wide_of_formed hf (kept d keep)
  obtain ⟨a, b, c, e⟩ := (formed_iff d).1 hf
  rw [look_nil _ _ k h0 (broken_wide hf keep torn).1]
  rw [look_replay d.pages false k h0 b (d.writes.take (kept d keep)) fun w hw => ⟨(c w (List.mem_of_mem_take hw)).1, (c w (List.mem_of_mem_take hw)).2.2⟩]
  unfold broken
  cases hw : d.writes[kept d keep]? with
  | none => rfl
  | some w =>
    have := c w (List.mem_of_getElem? hw)
    dsimp only
    by_cases ht : torn > 0
    · rw [if_pos ht, pg_put]
      by_cases ek : w.at_ = k
      · subst ek
        rw [if_pos rfl, if_pos rfl]
        congr 1
        omega
      · rw [if_neg (by omega), if_neg ek]
    · rw [if_neg ht]
      split
      · rw [show (max 0 (min torn 64)).toNat = 0 by omega, over_none]
      · rfl
theorem broken_all {d : Dk} {keep torn : Int} (h : d.writes.length ≤ kept d keep) : broken d keep torn = replay d.pages d.writes := by
  unfold broken
  rw [List.getElem?_eq_none h, List.take_of_length_le h]
/-- Two writes of different pages in either order. -/
theorem put_comm {ps : List (List UInt8)} {i k : Nat} (h : i ≠ k) (x y : List UInt8) (n m : Nat) : put (put ps i x n) k y m = put (put ps k y m) i x n := by
  apply pages_ext
  · simp only [length_put]; omega
  · intro j
    simp only [pg_put]
    by_cases e1 : j = k <;> by_cases e2 : j = i
    · omega
    · subst e1; simp [Ne.symm h]
    · subst e2; simp [h]
    · simp [e1, e2]
theorem put_put {ps : List (List UInt8)} (hw : Wide ps) {i : Nat} {x y : List UInt8} (hx : x.length = 64) (hy : y.length = 64) : put (put ps i x 64) i y 64 = put ps i y 64 := by
  apply pages_ext
  · simp only [length_put]; omega
  · intro j
    simp only [pg_put]
    split
    · rename_i e
      rw [if_pos trivial, over_all hy (wide_pg hw _), over_all hy (length_over hx (wide_pg hw _) (Nat.le_refl _))]
    · rfl
end Go.Proofs.Ytcembocnkndlhaa
