/- Parts Math, Mem, Wa, Wb, Rd, Re, Ua, Rf, Wc, App, Wd, We, Wf, Own, Ra: words, walks and laws that the claims of this seat share. -/
import Derived.Test.YtcembocnkndlhaaProg
import Derived.WalkKit
import Derived.WalkSpells
import Derived.WalkLawsBesides
import Derived.Lib.Hide
import Derived.Deep.QuietTactic
import Derived.BigQuiet
import Derived.Maps.AppendAt
import Derived.Deep.RegionLaw
import Derived.Deep.AppendLies
import Derived.Laws.CopyOwn
import Derived.Deep.OwnRows
import Derived.Laws.EntriesVeiled
import Derived.Deep.Upon
import Derived.Deep.RegionHeld3
import Derived.Deep.LoopGhost
/- Disks in plain Lean: pages, writes, crashes; what the functions of layer 35 compute. -/
namespace Go.Proofs.Ytcembocnkndlhaa
structure Wt where
  at_ : Int
  data : List UInt8
theorem Wt.ext' {x y : Wt} (h : x.at_ = y.at_) (k : x.data = y.data) : x = y := by cases x; cases y; simp at h k; subst h k; rfl
instance : DecidableEq Wt := fun x y => if h : x.at_ = y.at_ ∧ x.data = y.data then isTrue (Wt.ext' h.1 h.2) else isFalse fun e => h (by subst e; exact ⟨rfl, rfl⟩)
structure Dk where
  pages : List (List UInt8)
  writes : List Wt
  down : Bool
theorem Dk.ext' {x y : Dk} (h : x.pages = y.pages) (k : x.writes = y.writes) (l : x.down = y.down) : x = y := by cases x; cases y; simp at h k l; subst h k l; rfl
instance : DecidableEq Dk := fun x y => if h : x.pages = y.pages ∧ x.writes = y.writes ∧ x.down = y.down then isTrue (Dk.ext' h.1 h.2.1 h.2.2) else isFalse fun e => h (by subst e; exact ⟨rfl, rfl, rfl⟩)
def noDisk : Dk := ⟨[], [], false⟩
def zeros (n : Nat) : List UInt8 := List.replicate n 0
/-- A page that begins with some bytes. -/
def full (b : List UInt8) : List UInt8 := b.take 64 ++ zeros (64 - b.length)
/-- The reference's. -/
def rfull (b : List UInt8) : List UInt8 := b ++ zeros (64 - b.length)
theorem full_rfull {b : List UInt8} (h : b.length ≤ 64) : full b = rfull b := by
  unfold full rfull; rw [List.take_of_length_le h]
theorem length_full (b : List UInt8) : (full b).length = 64 := by simp [full, zeros]; omega
theorem full_self {b : List UInt8} (h : b.length = 64) : full b = b := by
  unfold full zeros; rw [List.take_of_length_le (by omega), h]; simp
theorem rfull_self {b : List UInt8} (h : b.length = 64) : rfull b = b := by
  unfold rfull zeros; rw [h]; simp
/-- The first n bytes of data laid over a page. -/
def over (data p : List UInt8) (n : Nat) : List UInt8 := data.take n ++ p.drop n
/-- The pages with one more of zeros at the end, so long as there are at most k. -/
def grow (ps : List (List UInt8)) (k : Nat) : List (List UInt8) := ps ++ List.replicate (k - ps.length) (full [])
def put (ps : List (List UInt8)) (k : Nat) (data : List UInt8) (n : Nat) : List (List UInt8) := (grow ps (k + 1)).modify k fun p => over data p n
def replay (ps : List (List UInt8)) (ws : List Wt) : List (List UInt8) := ws.foldl (fun ps w => put ps w.at_.toNat w.data 64) ps
theorem replay_snoc (ps : List (List UInt8)) (ws : List Wt) (w : Wt) : replay ps (ws ++ [w]) = put (replay ps ws) w.at_.toNat w.data 64 := by simp [replay]
theorem replay_append (ps : List (List UInt8)) (ws vs : List Wt) : replay ps (ws ++ vs) = replay (replay ps ws) vs := by simp [replay]
def badPage (b : List UInt8) : Bool := decide (b.length ≠ 64)
def odd (w : Wt) : Bool := decide (w.at_ < 0) || decide (w.at_ ≥ 400) || badPage w.data
def formed (d : Dk) : Bool := decide (d.pages.length ≤ 400) && !d.pages.any badPage && !d.writes.any odd && !(d.down && decide (d.writes.length > 0))
def failure (d : Dk) (k : Int) : Int := if (!formed d || decide (k < 0) || decide (k ≥ 400)) = true then 1 else if d.down = true then 350 else 0
def writeD (d : Dk) (k : Int) (data : List UInt8) : Dk × Int :=
  if data.length > 64 then (noDisk, 1) else if failure d k ≠ 0 then (noDisk, failure d k) else (⟨d.pages, d.writes ++ [⟨k, full data⟩], d.down⟩, 0)
def syncD (d : Dk) : Dk × Int := if failure d 0 ≠ 0 then (noDisk, failure d 0) else (⟨replay d.pages d.writes, [], false⟩, 0)
/-- What Read looks for. -/
def look (d : Dk) (k : Int) : List UInt8 :=
  match d.writes.reverse.find? (fun w => decide (w.at_ = k)) with
  | some w => full w.data
  | none => if k < d.pages.length then full (d.pages.getD k.toNat []) else full []
def readD (d : Dk) (k : Int) : List UInt8 × Int := if failure d k ≠ 0 then ([], failure d k) else (look d k, 0)
/-- How many writes a crash keeps. -/
def kept (d : Dk) (keep : Int) : Nat := (max 0 (min keep d.writes.length)).toNat
/-- The pages after a crash. -/
def broken (d : Dk) (keep torn : Int) : List (List UInt8) :=
  match d.writes[kept d keep]? with
  | some w => if torn > 0 then put (replay d.pages (d.writes.take (kept d keep))) w.at_.toNat w.data (min torn 64).toNat else replay d.pages (d.writes.take (kept d keep))
  | none => replay d.pages (d.writes.take (kept d keep))
def crashD (d : Dk) (keep torn : Int) : Dk := if formed d = true then ⟨broken d keep torn, [], true⟩ else noDisk
def restartD (d : Dk) : Dk := if formed d = true then ⟨d.pages, d.writes, false⟩ else noDisk
/-! ### pages by their numbers -/
def pg (ps : List (List UInt8)) (i : Nat) : List UInt8 := ps.getD i (full [])
theorem pg_lt {ps : List (List UInt8)} {i : Nat} (h : i < ps.length) : pg ps i = ps[i] := by
  unfold pg; rw [List.getD_eq_getElem?_getD, List.getElem?_eq_getElem h]; rfl
theorem pg_ge {ps : List (List UInt8)} {i : Nat} (h : ps.length ≤ i) : pg ps i = full [] := by
  unfold pg; rw [List.getD_eq_getElem?_getD, List.getElem?_eq_none h]; rfl
theorem pages_ext {ps qs : List (List UInt8)} (h : ps.length = qs.length) (k : ∀ i, pg ps i = pg qs i) : ps = qs :=
  List.ext_getElem h fun i h1 h2 => by rw [← pg_lt h1, ← pg_lt h2]; exact k i
theorem length_grow (ps : List (List UInt8)) (k : Nat) : (grow ps k).length = max ps.length k := by simp [grow]; omega
theorem pg_grow (ps : List (List UInt8)) (k i : Nat) : pg (grow ps k) i = pg ps i := by
  unfold pg grow
  simp only [List.getD_eq_getElem?_getD, List.getElem?_append]
  split
  · rfl
  · rename_i h
    rw [List.getElem?_eq_none (l := ps) (by omega), List.getElem?_replicate]
    split <;> rfl
theorem length_put (ps : List (List UInt8)) (k : Nat) (data : List UInt8) (n : Nat) : (put ps k data n).length = max ps.length (k + 1) := by
  unfold put; rw [List.length_modify, length_grow]
theorem pg_put (ps : List (List UInt8)) (k : Nat) (data : List UInt8) (n i : Nat) : pg (put ps k data n) i = if i = k then over data (pg ps k) n else pg ps i := by
  by_cases e : i = k
  · subst e
    have h : i < (grow ps (i + 1)).length := by rw [length_grow]; omega
    rw [if_pos rfl, ← pg_grow ps (i + 1) i, pg_lt h]
    unfold pg put
    rw [List.getD_eq_getElem?_getD, List.getElem?_modify, List.getElem?_eq_getElem h]
    simp
  · rw [if_neg e, ← pg_grow ps (k + 1) i]
    unfold pg put
    rw [List.getD_eq_getElem?_getD, List.getD_eq_getElem?_getD, List.getElem?_modify]
    simp [Ne.symm e]
def Wide (ps : List (List UInt8)) : Prop := ∀ p ∈ ps, p.length = 64
theorem wide_pg {ps : List (List UInt8)} (h : Wide ps) (i : Nat) : (pg ps i).length = 64 := by
  rcases Nat.lt_or_ge i ps.length with k | k
  · rw [pg_lt k]; exact h _ (List.getElem_mem k)
  · rw [pg_ge k]; exact length_full _
theorem wide_of {ps : List (List UInt8)} (h : ∀ i, (pg ps i).length = 64) : Wide ps := by
  intro p hp
  obtain ⟨i, hi, rfl⟩ := List.getElem_of_mem hp
  rw [← pg_lt hi]; exact h i
theorem length_over {data p : List UInt8} {n : Nat} (hd : data.length = 64) (hp : p.length = 64) (hn : n ≤ 64) : (over data p n).length = 64 := by
  simp [over]; omega
theorem over_all {data p : List UInt8} (hd : data.length = 64) (hp : p.length = 64) : over data p 64 = data := by
  unfold over; rw [List.take_of_length_le (by omega), List.drop_of_length_le (by omega), List.append_nil]
theorem over_none (data p : List UInt8) : over data p 0 = p := by simp [over]
theorem wide_put {ps : List (List UInt8)} (h : Wide ps) {k : Nat} {data : List UInt8} (hd : data.length = 64) {n : Nat} (hn : n ≤ 64) : Wide (put ps k data n) := by
  refine wide_of fun i => ?_
  rw [pg_put]
  split
  · exact length_over hd (wide_pg h _) hn
  · exact wide_pg h i
theorem wide_replay {ws : List Wt} : ∀ {ps : List (List UInt8)}, Wide ps → (∀ w ∈ ws, w.data.length = 64) → Wide (replay ps ws) := by
  induction ws with
  | nil => intro ps h _; exact h
  | cons w r ih =>
    intro ps h k
    show Wide (replay (put ps w.at_.toNat w.data 64) r)
    exact ih (wide_put h (k w (by simp)) (Nat.le_refl _)) fun x hx => k x (by simp [hx])
/-! ### well-formed disks -/
theorem formed_iff (d : Dk) : formed d = true ↔ d.pages.length ≤ 400 ∧ Wide d.pages ∧ (∀ w ∈ d.writes, 0 ≤ w.at_ ∧ w.at_ < 400 ∧ w.data.length = 64) ∧ (d.down = true → d.writes = []) := by
  unfold formed
  simp only [Bool.and_eq_true, decide_eq_true_eq, Bool.not_eq_true', List.any_eq_false]
  constructor
  · rintro ⟨⟨⟨h1, h2⟩, h3⟩, h4⟩
    refine ⟨h1, fun p hp => ?_, fun w hw => ?_, fun hd => ?_⟩
    · have := h2 p hp; simpa [badPage] using this
    · have := h3 w hw
      simp [odd, badPage] at this
      omega
    · rw [hd] at h4
      simpa using h4
  · rintro ⟨h1, h2, h3, h4⟩
    refine ⟨⟨⟨h1, fun p hp => ?_⟩, fun w hw => ?_⟩, ?_⟩
    · have := h2 p hp; simpa [badPage] using this
    · have := h3 w hw; simp [odd, badPage]; omega
    · cases hd : d.down
      · rfl
      · rw [h4 hd]; rfl
theorem failure_ok {d : Dk} {k : Int} (h : formed d = true) (hd : d.down = false) (h0 : 0 ≤ k) (h1 : k < 400) : failure d k = 0 := by
  unfold failure; rw [if_neg (by simp [h]; omega), if_neg (by simp [hd])]
theorem failure_down {d : Dk} {k : Int} (h : formed d = true) (hd : d.down = true) (h0 : 0 ≤ k) (h1 : k < 400) : failure d k = 350 := by
  unfold failure; rw [if_neg (by simp [h]; omega), if_pos hd]
theorem failure_zero {d : Dk} {k : Int} (h : failure d k = 0) : formed d = true ∧ d.down = false ∧ 0 ≤ k ∧ k < 400 := by
  unfold failure at h
  split at h
  · omega
  · split at h
    · omega
    · rename_i a b
      simp at a
      exact ⟨a.1.1, by simpa using b, a.1.2, a.2⟩
theorem look_snoc (ps : List (List UInt8)) (ws : List Wt) (w : Wt) (dn : Bool) (k : Int) : look ⟨ps, ws ++ [w], dn⟩ k = if w.at_ = k then full w.data else look ⟨ps, ws, dn⟩ k := by
  unfold look
  rw [List.reverse_append]
  simp only [List.reverse_cons, List.reverse_nil, List.nil_append, List.singleton_append, List.find?_cons]
  by_cases e : w.at_ = k
  · rw [if_pos e]; simp [e]
  · rw [if_neg e]; simp [e]
theorem look_nil (ps : List (List UInt8)) (dn : Bool) (k : Int) (h0 : 0 ≤ k) (hw : Wide ps) : look ⟨ps, [], dn⟩ k = pg ps k.toNat := by
  show (if k < ps.length then full (ps.getD k.toNat []) else full []) = _
  split
  · rename_i h
    rw [pg_lt (show k.toNat < ps.length by omega), List.getD_eq_getElem?_getD, List.getElem?_eq_getElem (show k.toNat < ps.length by omega)]
    exact full_self (hw _ (List.getElem_mem _))
  · rw [pg_ge (by omega)]
theorem rev_ind {α : Type} {p : List α → Prop} (nil : p []) (snoc : ∀ r x, p r → p (r ++ [x])) (l : List α) : p l := by
  have : ∀ r : List α, p r.reverse := by
    intro r
    induction r with
    | nil => exact nil
    | cons x s ih => rw [List.reverse_cons]; exact snoc _ _ ih
  have h := this l.reverse
  rwa [List.reverse_reverse] at h
/-- Read sees the pages after all writes. -/
theorem look_replay (ps : List (List UInt8)) (dn : Bool) (k : Int) (h0 : 0 ≤ k) (hw : Wide ps) (ws : List Wt) : (∀ w ∈ ws, 0 ≤ w.at_ ∧ w.data.length = 64) → look ⟨ps, ws, dn⟩ k = pg (replay ps ws) k.toNat := by
  induction ws using rev_ind with
  | nil => intro _; exact look_nil ps dn k h0 hw
  | snoc r w ih =>
    intro hws
    have h1 := hws w (by simp)
    have h2 : ∀ x ∈ r, 0 ≤ x.at_ ∧ x.data.length = 64 := fun x hx => hws x (by simp [hx])
    rw [look_snoc, replay_snoc, pg_put, ih h2]
    by_cases e : w.at_ = k
    · rw [if_pos e, if_pos (by omega), full_self h1.2, over_all h1.2 (wide_pg (wide_replay hw fun x hx => (h2 x hx).2) _)]
    · rw [if_neg e, if_neg (by omega)]
end Go.Proofs.Ytcembocnkndlhaa
/- Words for memory: slices that read as lists of bytes, of pages, of writes; disks; pages that a call owns. -/
namespace Go.Proofs.Ytcembocnkndlhaa
open Go.RowKit
theorem cell_lt {w : World} {p : Addr} {v : Value} (h : w.cell? p = some v) : p.block < w.heap.size := by
  unfold World.cell? at h
  rcases Nat.lt_or_ge p.block w.heap.size with hlt | hge
  · exact hlt
  · rw [Array.getElem?_eq_none hge] at h; cases h
theorem cell_keep {w w' : World} {p : Addr} {v : Value} (hb : Below w.heap.size w w') (h : w.cell? p = some v) : w'.cell? p = some v := (hb.cell (cell_lt h)).trans h
theorem below_trans {w w1 w2 : World} (h : Below w.heap.size w w1) (k : Below w1.heap.size w1 w2) : Below w.heap.size w w2 := h.trans (k.mono h.size)
/-- Every cell that is there stays what it is. -/
def Keeps (w w' : World) : Prop := ∀ p v, w.cell? p = some v → w'.cell? p = some v
theorem Keeps.refl (w : World) : Keeps w w := fun _ _ h => h
theorem Keeps.trans {a b c : World} (h : Keeps a b) (k : Keeps b c) : Keeps a c := fun p v x => k p v (h p v x)
theorem keeps_below {w w' : World} (hb : Below w.heap.size w w') : Keeps w w' := fun _ _ h => cell_keep hb h
theorem ret_int {k : IntKind} {a b : Int} (h : a = b) : Ending.returned (.int k a) = .returned (.int k b) := by rw [h]
theorem ret_bool {a b : Bool} (h : a = b) : Ending.returned (.bool a) = .returned (.bool b) := by rw [h]
theorem ne_beq {a b : Int} (h : ¬a = b) : (a == b) = false := by simpa using h
theorem below_drewN {B : Nat} {a w : World} (h : Below B a w) (n : Nat) : Below B a (w.drewN n) := ⟨h.os, h.tape, h.output, h.size, h.block⟩
theorem quiet_left {P : Program} {f : FuncId} {args : Array Value} {w : World} {n : Nat} {v : Value}
    (h : Calls P f args (w.drewN n) fun e w' => e = .returned v ∧ w.drewN n = w') : Calls P f args (w.drewN n) fun e w'' => e = .returned v ∧ ∃ m, w'' = w.drewN m :=
  h.mono fun _ _ ⟨he, hm⟩ => ⟨he, n, hm.symm⟩
theorem own_from {w : World} {base : Nat} {e : TypeId} {size n : Nat} {v : Value} {xs : List Value} (h : w.ownsRow base e size v n xs) : ∀ k, v.ownBlock = some k → base ≤ k := by
  intro k hk
  rcases h.2 with ⟨rfl, _⟩ | ⟨g, cap, cur, rfl, hg, _⟩
  · simp [Value.ownBlock] at hk
  · have : g = k := by simpa [Value.ownBlock] using hk
    omega
/-- The slice at a (as wide as l) reads as the records l, each as enc lays it into k cells. -/
def RowsAt {α : Type} (k : Nat) (enc : α → List Value) (w : World) (a : Option Addr) (l : List α) : Prop :=
  l = [] ∨ ∃ b off, a = some ⟨b, off, none⟩ ∧ ∀ i x, l[i]? = some x → ∀ j u, (enc x)[j]? = some u → w.cell? ⟨b, off + i * k + j, none⟩ = some u
def IsRows {α : Type} (k : Nat) (enc : α → List Value) (w : World) (v : Value) (l : List α) : Prop :=
  ∃ a c, v = .slice a l.length c ∧ RowsAt k enc w a l ∧ l.length ≤ 9223372036854775807 ∧ l.length ≤ c ∧ c ≤ 9223372036854775807
theorem RowsAt.keep {α : Type} {k : Nat} {enc : α → List Value} {w w' : World} {a : Option Addr} {l : List α} (h : RowsAt k enc w a l) (hk : Keeps w w') : RowsAt k enc w' a l := by
  rcases h with h | ⟨b, off, ha, hc⟩
  · exact .inl h
  · exact .inr ⟨b, off, ha, fun i x hi j u hj => hk _ _ (hc i x hi j u hj)⟩
theorem IsRows.keep {α : Type} {k : Nat} {enc : α → List Value} {w w' : World} {v : Value} {l : List α} (h : IsRows k enc w v l) (hk : Keeps w w') : IsRows k enc w' v l := by
  obtain ⟨a, c, e, h, m⟩ := h
  exact ⟨a, c, e, h.keep hk, m⟩
theorem RowsAt.at_ {α : Type} {k : Nat} {enc : α → List Value} {w : World} {a : Option Addr} {l : List α} (h : RowsAt k enc w a l) {i : Nat} {x : α} (hi : l[i]? = some x) :
    ∃ b off, a = some ⟨b, off, none⟩ ∧ ∀ i x, l[i]? = some x → ∀ j u, (enc x)[j]? = some u → w.cell? ⟨b, off + i * k + j, none⟩ = some u := by
  rcases h with h | h
  · subst h; simp at hi
  · exact h
theorem flat_get {α : Type} {k : Nat} {enc : α → List Value} : ∀ (l : List α), (∀ x ∈ l, (enc x).length = k) → ∀ i x, l[i]? = some x → ∀ j u, (enc x)[j]? = some u → (l.flatMap enc)[i * k + j]? = some u
  | [], _, i, x, hi, _, _, _ => by simp at hi
  | y :: r, hl, 0, x, hi, j, u, hj => by
    obtain rfl : y = x := by simpa using hi
    rw [List.flatMap_cons, Nat.zero_mul, Nat.zero_add, List.getElem?_append_left]
    · exact hj
    · exact (List.getElem?_eq_some_iff.1 hj).1
  | y :: r, hl, i + 1, x, hi, j, u, hj => by
    have hy : (enc y).length = k := hl y (by simp)
    rw [List.flatMap_cons, List.getElem?_append_right (by rw [hy, Nat.add_mul]; omega), hy]
    rw [show (i + 1) * k + j - k = i * k + j from by rw [Nat.add_mul]; omega]
    exact flat_get r (fun z hz => hl z (by simp [hz])) i x (by simpa using hi) j u hj
/-- What a call owns reads as a list. -/
theorem IsRows.of_owns {α : Type} {k : Nat} {enc : α → List Value} {w : World} {base : Nat} {e : TypeId} {v : Value} {l : List α} (h : w.ownsRow base e k v l.length (l.flatMap enc)) (hl : ∀ x ∈ l, (enc x).length = k) (hm : l.length ≤ 9223372036854775807) : IsRows k enc w v l := by
  rcases h.2 with ⟨rfl, h0⟩ | ⟨g, cap, cur, hv, _, _, hnc, hcm, _⟩
  · have : l = [] := List.eq_nil_of_length_eq_zero h0
    subst this
    exact ⟨none, 0, rfl, .inl rfl, hm, by simp, by simp⟩
  · refine ⟨some ⟨g, 0, none⟩, cap, hv, .inr ⟨g, 0, rfl, fun i x hi j u hj => ?_⟩, hm, hnc, by unfold maxLen at hcm; omega⟩
    have hc := h.cells (g := g) (by rw [hv]; rfl) (i * k + j) u (flat_get l hl i x hi j u hj)
    have hadd : (⟨g, 0, none⟩ : Addr).add (i * k + j) = ⟨g, 0 + i * k + j, none⟩ := by
      unfold Addr.add; split
      · rename_i h0; rw [Nat.add_assoc, h0]
      · simp
    rwa [hadd] at hc

theorem below_new (w : World) (o : Obj) : Below w.heap.size w (w.alloc o) := (Below.refl _ _).alloc (Nat.le_refl _) _
/-! ### bytes -/
def encB (c : UInt8) : List Value := [.int .u8 c.toNat]
def IsBytes (w : World) (v : Value) (l : List UInt8) : Prop := IsRows 1 encB w v l
theorem IsBytes.keep {w w' : World} {v : Value} {l : List UInt8} (h : IsBytes w v l) (hb : Below w.heap.size w w') : IsBytes w' v l := IsRows.keep h (keeps_below hb)
theorem RowsAt.one {α : Type} {enc : α → List Value} {w : World} {a : Option Addr} {l : List α} (h : RowsAt 1 enc w a l) {i : Nat} {x : α} {u : Value} (hi : l[i]? = some x) (he : enc x = [u]) :
    ∃ b off, a = some ⟨b, off, none⟩ ∧ w.cell? ⟨b, off + i, none⟩ = some u := by
  obtain ⟨b, off, ha, hc⟩ := h.at_ hi
  refine ⟨b, off, ha, ?_⟩
  have := hc i x hi 0 u (by rw [he]; rfl)
  simpa using this
theorem IsBytes.nil (w : World) : IsBytes w (.slice none 0 0) [] := ⟨none, 0, rfl, .inl rfl, by simp, by simp, by simp⟩
/-! ### pages -/
def encV (u : Value) : List Value := [u]
def IsPages (w : World) (v : Value) (L : List (List UInt8)) : Prop :=
  ∃ vs : List Value, IsRows 1 encV w v vs ∧ vs.length = L.length ∧ ∀ (i : Nat) (u : Value) (l : List UInt8), vs[i]? = some u → L[i]? = some l → IsBytes w u l
theorem IsPages.keep {w w' : World} {v : Value} {L : List (List UInt8)} (h : IsPages w v L) (hb : Below w.heap.size w w') : IsPages w' v L := by
  obtain ⟨vs, h1, h2, h3⟩ := h
  exact ⟨vs, h1.keep (keeps_below hb), h2, fun i u l hu hl => (h3 i u l hu hl).keep hb⟩
theorem IsPages.shape {w : World} {v : Value} {L : List (List UInt8)} (h : IsPages w v L) : ∃ a c, v = .slice a L.length c ∧ L.length ≤ 9223372036854775807 ∧ L.length ≤ c ∧ c ≤ 9223372036854775807 := by
  obtain ⟨vs, ⟨a, c, e, _, hm⟩, h2, _⟩ := h
  exact ⟨a, c, by rw [e, h2], by omega⟩
/-- The page i: its slice's cell, and what it reads as. -/
theorem IsPages.at_ {w : World} {a : Option Addr} {n c : Nat} {L : List (List UInt8)} (h : IsPages w (.slice a n c) L) {i : Nat} {l : List UInt8} (hi : L[i]? = some l) :
    ∃ b off pa pc, a = some ⟨b, off, none⟩ ∧ w.cell? ⟨b, off + i, none⟩ = some (.slice pa l.length pc) ∧ IsBytes w (.slice pa l.length pc) l := by
  obtain ⟨vs, ⟨a', c', e, h1, hm⟩, h2, h3⟩ := h
  injection e with e1 e2 e3
  subst e1
  have hlt : i < vs.length := by rw [h2]; exact (List.getElem?_eq_some_iff.1 hi).1
  have hu : vs[i]? = some vs[i] := List.getElem?_eq_getElem hlt
  obtain ⟨b, off, ha, hc⟩ := h1.one hu rfl
  have h4 := h3 i _ _ hu hi
  have h5 := h4
  obtain ⟨pa, pc, e', _, _⟩ := h5
  rw [e'] at hc h4
  exact ⟨b, off, pa, pc, ha, hc, h4⟩
/-! ### writes -/
def encW (p : Int × Value) : List Value := [.int .i64 p.1, p.2]
def IsWrites (w : World) (v : Value) (L : List Wt) : Prop :=
  ∃ ps : List (Int × Value), IsRows 2 encW w v ps ∧ ps.length = L.length ∧ ∀ (i : Nat) (p : Int × Value) (x : Wt), ps[i]? = some p → L[i]? = some x → p.1 = x.at_ ∧ IsBytes w p.2 x.data
theorem IsWrites.keep {w w' : World} {v : Value} {L : List Wt} (h : IsWrites w v L) (hb : Below w.heap.size w w') : IsWrites w' v L := by
  obtain ⟨vs, h1, h2, h3⟩ := h
  exact ⟨vs, h1.keep (keeps_below hb), h2, fun i u l hu hl => ⟨(h3 i u l hu hl).1, (h3 i u l hu hl).2.keep hb⟩⟩
theorem IsWrites.shape {w : World} {v : Value} {L : List Wt} (h : IsWrites w v L) : ∃ a c, v = .slice a L.length c ∧ L.length ≤ 9223372036854775807 ∧ L.length ≤ c ∧ c ≤ 9223372036854775807 := by
  obtain ⟨vs, ⟨a, c, e, _, hm⟩, h2, _⟩ := h
  exact ⟨a, c, by rw [e, h2], by omega⟩
theorem IsWrites.at_ {w : World} {a : Option Addr} {n c : Nat} {L : List Wt} (h : IsWrites w (.slice a n c) L) {i : Nat} {x : Wt} (hi : L[i]? = some x) :
    ∃ b off pa pc, a = some ⟨b, off, none⟩ ∧ w.cell? ⟨b, off + i * 2, none⟩ = some (.int .i64 x.at_) ∧ w.cell? ⟨b, off + i * 2 + 1, none⟩ = some (.slice pa x.data.length pc) ∧ IsBytes w (.slice pa x.data.length pc) x.data := by
  obtain ⟨vs, ⟨a', c', e, h1, hm⟩, h2, h3⟩ := h
  injection e with e1 e2 e3
  subst e1
  have hlt : i < vs.length := by rw [h2]; exact (List.getElem?_eq_some_iff.1 hi).1
  have hu : vs[i]? = some vs[i] := List.getElem?_eq_getElem hlt
  obtain ⟨b, off, ha, hc⟩ := h1.at_ hu
  obtain ⟨h4, h5⟩ := h3 i _ _ hu hi
  have h6 := h5
  obtain ⟨pa, pc, e', _, _⟩ := h6
  have c0 := hc i _ hu 0 _ rfl
  have c1 := hc i _ hu 1 _ rfl
  rw [e'] at c1 h5
  rw [h4] at c0
  exact ⟨b, off, pa, pc, ha, c0, c1, h5⟩
theorem IsWrites.nil (w : World) : IsWrites w (.slice none 0 0) [] := ⟨[], ⟨none, 0, rfl, .inl rfl, by simp, by simp, by simp⟩, rfl, by simp⟩
theorem IsPages.nil (w : World) : IsPages w (.slice none 0 0) [] := ⟨[], ⟨none, 0, rfl, .inl rfl, by simp, by simp, by simp⟩, rfl, by simp⟩
/-! ### disks -/
def IsDisk (w : World) (v : Value) (d : Dk) : Prop := ∃ pv wv, v = .agg #[pv, wv, .bool d.down] ∧ IsPages w pv d.pages ∧ IsWrites w wv d.writes
theorem IsDisk.keep {w w' : World} {v : Value} {d : Dk} (h : IsDisk w v d) (hb : Below w.heap.size w w') : IsDisk w' v d := by
  obtain ⟨pv, wv, e, h1, h2⟩ := h
  exact ⟨pv, wv, e, h1.keep hb, h2.keep hb⟩
def zeroV : Value := .agg #[.slice none 0 0, .slice none 0 0, .bool false]
theorem IsDisk.zero (w : World) : IsDisk w zeroV noDisk := ⟨_, _, rfl, IsPages.nil w, IsWrites.nil w⟩
theorem IsDisk.shape {w : World} {v : Value} {d : Dk} (h : IsDisk w v d) : ∃ pa pc wa wc, v = .agg #[.slice pa d.pages.length pc, .slice wa d.writes.length wc, .bool d.down] ∧ IsPages w (.slice pa d.pages.length pc) d.pages ∧ IsWrites w (.slice wa d.writes.length wc) d.writes
    ∧ d.pages.length ≤ 9223372036854775807 ∧ d.writes.length ≤ 9223372036854775807 ∧ d.pages.length ≤ pc ∧ pc ≤ 9223372036854775807 ∧ d.writes.length ≤ wc ∧ wc ≤ 9223372036854775807 := by
  obtain ⟨pv, wv, e, h1, h2⟩ := h
  obtain ⟨pa, pc, e1, m1, m3⟩ := h1.shape
  obtain ⟨wa, wc, e2, m2, m4⟩ := h2.shape
  subst e1 e2
  exact ⟨pa, pc, wa, wc, e, h1, h2, m1, m2, m3.1, m3.2, m4⟩
/-! ### a page that a call owns -/
def bytesV (l : List UInt8) : List Value := l.map fun c => .int .u8 c.toNat
theorem flat_bytes (l : List UInt8) : l.flatMap encB = bytesV l := by
  induction l with
  | nil => rfl
  | cons x r ih => rw [List.flatMap_cons, ih]; rfl
theorem length_bytesV (l : List UInt8) : (bytesV l).length = l.length := by simp [bytesV]
theorem bytesV_one (l : List UInt8) : ∀ u ∈ bytesV l, u.oneCell' = true := by
  intro u hu
  obtain ⟨x, _, rfl⟩ := List.mem_map.1 hu
  rfl
def OwnPage (w : World) (base : Nat) (v : Value) (l : List UInt8) : Prop :=
  ∃ g, v = .slice (some ⟨g, 0, none⟩) 64 64 ∧ base ≤ g ∧ w.heap[g]? = some (.cells (bytesV l).toArray 5 (0, 0)) ∧ l.length = 64
theorem OwnPage.bytes {w : World} {base : Nat} {v : Value} {l : List UInt8} (h : OwnPage w base v l) : IsBytes w v l := by
  obtain ⟨g, rfl, _, hg, hl⟩ := h
  refine ⟨some ⟨g, 0, none⟩, 64, by rw [hl], .inr ⟨g, 0, rfl, fun i x hi j u hj => ?_⟩, by omega, by omega, by omega⟩
  have hj0 : j = 0 := by
    have := (List.getElem?_eq_some_iff.1 hj).1
    simp [encB] at this; exact this
  subst hj0
  rw [cell_of_row _ g _ _ 5 (0, 0) hg]
  have : u = .int .u8 x.toNat := by simpa [encB] using hj.symm
  subst this
  simp [bytesV, hi]
theorem OwnPage.keep {w w' : World} {base : Nat} {v : Value} {l : List UInt8} (h : OwnPage w base v l) (hb : Below w.heap.size w w') : OwnPage w' base v l := by
  obtain ⟨g, e, h1, hg, hl⟩ := h
  exact ⟨g, e, h1, (hb.block g (Array.getElem?_eq_some_iff.1 hg).1).trans hg, hl⟩
/-- A cell of a block that the call made, in a later world. -/
theorem boxed {w w' : World} {cs : Array Value} {t : TypeId} {j : Nat} {v : Value} (hv : cs[j]? = some v) (hb : Below (w.alloc (.cells cs t)).heap.size (w.alloc (.cells cs t)) w') : w'.cell? ⟨w.heap.size, j, none⟩ = some v := by
  have e : (w.alloc (.cells cs t)).heap[w.heap.size]? = some (.cells cs t) := heap_alloc_new w _
  refine cell_keep hb ?_
  rw [cell_of_row _ w.heap.size j _ t (0, 0) e]
  exact hv
/-- The block that a call made, in a later world. -/
theorem box_at {w w' : World} {cs : Array Value} {t : TypeId} (hb : Below (w.alloc (.cells cs t)).heap.size (w.alloc (.cells cs t)) w') : w'.heap[w.heap.size]? = some (.cells cs t (0, 0)) :=
  (hb.block _ (by simp)).trans (heap_alloc_new w _)
theorem free_at {w : World} {g j : Nat} {cs : Array Value} {t : TypeId} (h : w.heap[g]? = some (.cells cs t (0, 0))) : w.frozen? ⟨g, j, none⟩ = false := by
  simp [World.frozen?, h]
theorem cell_at {w : World} {g j : Nat} {cs : Array Value} {t : TypeId} {v : Value} (h : w.heap[g]? = some (.cells cs t (0, 0))) (hv : cs[j]? = some v) : w.cell? ⟨g, j, none⟩ = some v := by
  rw [cell_of_row _ g j cs t (0, 0) h]; exact hv
theorem block_lt {w : World} {g : Nat} {o : Obj} (h : w.heap[g]? = some o) : g < w.heap.size := (Array.getElem?_eq_some_iff.1 h).1
theorem block_keep {w w' : World} {g : Nat} {o : Obj} (h : w.heap[g]? = some o) (hb : Below w.heap.size w w') : w'.heap[g]? = some o := (hb.block g (block_lt h)).trans h
/-- A box of three cells. -/
structure Box3 (w : World) (g : Nat) (a b c : Value) : Prop where
  c0 : w.cell? ⟨g, 0, none⟩ = some a
  c1 : w.cell? ⟨g, 1, none⟩ = some b
  c2 : w.cell? ⟨g, 2, none⟩ = some c
  f0 : w.frozen? ⟨g, 0, none⟩ = false
  f1 : w.frozen? ⟨g, 1, none⟩ = false
  f2 : w.frozen? ⟨g, 2, none⟩ = false
theorem Box3.of {w : World} {g : Nat} {a b c : Value} {t : TypeId} (h : w.heap[g]? = some (.cells #[a, b, c] t (0, 0))) : Box3 w g a b c :=
  ⟨cell_at h rfl, cell_at h rfl, cell_at h rfl, free_at h, free_at h, free_at h⟩
end Go.Proofs.Ytcembocnkndlhaa
/- The walks of the leaves: full, the shapes that formed asks for, failure. -/
namespace Go.Proofs.Ytcembocnkndlhaa
open Go.RowKit
theorem info5 : (Try.prog.info? 5).map (fun i => (i.zero, i.size, i.bytes)) = some (some (.int .u8 0), 1, 1) := by kernel_rfl
def zero64 : List Value := bytesV (zeros 64)
theorem length_zero64 : zero64.length = 64 := by simp [zero64, length_bytesV, zeros]
theorem made64 : (madeCells #[Value.int .u8 0] 64) = zero64.toArray := by
  apply Array.ext
  · simp [madeCells, length_zero64]
  · intro i h1 h2
    have e : ∀ (n i : Nat) (h : i < ((bytesV (zeros n)).toArray).size), (bytesV (zeros n)).toArray[i] = .int .u8 0 := fun n i h => by simp [bytesV, zeros]
    rw [show zero64.toArray[i] = .int .u8 0 from e 64 i h2]
    simp [madeCells, Nat.mod_one]
theorem run_make64 (w : World) : (Instr.makeSlice 26 (.int .i64 64) (.int .i64 64)).run Try.prog w = .ok (.slice (some ⟨w.heap.size, 0, none⟩) 64 64) (w.alloc (.cells zero64.toArray 5)) := by
  have h := run_make_row' (P := Try.prog) 26 5 (.int .u8 0) 1 Try.underlying26 info5 rfl .i64 .i64 64 (by decide) (by decide) w
  rw [made64] at h
  exact h
theorem splice_full {l : List UInt8} : splice zero64 0 (bytesV (l.take 64)) = bytesV (full l) := by
  unfold splice zero64 full bytesV
  simp only [List.take_zero, List.nil_append, List.map_append, List.length_map, Nat.zero_add, ← List.map_drop]
  congr 2
  unfold zeros
  rw [List.drop_replicate, List.length_take]
  congr 1
  omega
theorem bytes_take {w : World} {b off : Nat} {l : List UInt8} (hc : ∀ i x, l[i]? = some x → ∀ j u, (encB x)[j]? = some u → w.cell? ⟨b, off + i * 1 + j, none⟩ = some u) (n : Nat) :
    ∀ j u, (bytesV (l.take n))[j]? = some u → w.cell? ((⟨b, off, none⟩ : Addr).add j) = some u := by
  intro j u hj
  unfold bytesV at hj
  rw [List.getElem?_map] at hj
  obtain ⟨x, hx, rfl⟩ := Option.map_eq_some_iff.1 hj
  rw [List.getElem?_take] at hx
  split at hx
  · have := hc j x hx 0 _ rfl
    have hadd : (⟨b, off, none⟩ : Addr).add j = ⟨b, off + j, none⟩ := by
      unfold Addr.add; split
      · rename_i h0; subst h0; simp
      · simp
    rw [hadd]; simpa using this
  · cases hx
theorem full_any (v : Value) (l : List UInt8) (w : World) (h : IsBytes w v l) :
    Calls Try.prog 58 #[v] w fun e w' => ∃ u, e = .returned u ∧ OwnPage w' w.heap.size u (full l) ∧ Below w.heap.size w w' := by
  obtain ⟨a, c, rfl, hr, hm⟩ := h
  have hmk := run_make64
  have b0 := below_new w (.cells zero64.toArray 5)
  have hpos : 0 < (bytesV (l.take 64)).length → (some (⟨w.heap.size, 0, none⟩ : Addr)) = some ⟨w.heap.size, 0, none⟩ ∧ ∃ ad, a = some ad ∧ ∀ j v, (bytesV (l.take 64))[j]? = some v → (w.alloc (.cells zero64.toArray 5)).cell? (ad.add j) = some v := by
    intro hp
    rw [length_bytesV] at hp
    rcases hr with rfl | ⟨b, off, rfl, hc⟩
    · simp at hp
    · exact ⟨rfl, _, rfl, bytes_take (fun i x hi j u hj => keeps_below b0 _ _ (hc i x hi j u hj)) 64⟩
  have hn : (bytesV (l.take 64)).length = Nat.min l.length 64 := by rw [length_bytesV, List.length_take]; exact Nat.min_comm _ _
  have h1 := bytesV_one (l.take 64)
  have hfit : 0 + (bytesV (l.take 64)).length ≤ zero64.length := by rw [hn, length_zero64]; have := Nat.min_le_right l.length 64; simp only [Nat.zero_add]; exact this
  have hS := Lib.hid (splice_full (l := l))
  have hL := length_full l
  have HL := Lib.hid hL
  have hg : (w.alloc (.cells zero64.toArray 5)).heap[w.heap.size]? = some (.cells zero64.toArray 5 (0, 0)) := heap_alloc_new w _
  have hsz : (Try.prog.info? 5).map (·.size) = some 1 := by kernel_rfl
  generalize full l = fl at *
  generalize hcs : bytesV (l.take 64) = cs at *
  have HC := Lib.hid hcs
  have HN := Lib.hid hn
  have HP := Lib.hid hpos
  have HG := Lib.hid hg
  clear hcs hL hn hpos hg hr
  go_enter Try.func58, Try.ntmps58
  go_wp2_with (with_reducible refine wpList_copy_splice rfl (.tmp 5) (.tmp 6) 26 26 rfl 5 Try.underlying26 hsz (some ⟨w.heap.size, 0, none⟩) a 64 64 l.length c rfl rfl w.heap.size 0 zero64 5 HG.out cs HN.out HP.out hfit h1 w.heap.size w b0 (Nat.le_refl _) ?_; intro w2 HG2 hB2)
  go_ret
  have hg2 := HG2.out
  rw [hS.out] at hg2
  exact ⟨_, rfl, ⟨w.heap.size, rfl, Nat.le_refl _, hg2, HL.out⟩, hB2⟩
end Go.Proofs.Ytcembocnkndlhaa
/- The walks of formed: its two closures, the library's searches with them. -/
namespace Go.Proofs.Ytcembocnkndlhaa
open Go.RowKit
theorem dec_ne {n m : Nat} : decide (n ≠ m) = ((n : Int) != (m : Int)) := by
  rw [Bool.eq_iff_iff]; simp only [decide_eq_true_iff, bne_iff_ne]; omega
theorem bad_any (v : Value) (l : List UInt8) (w : World) (h : IsBytes w v l) :
    Calls Try.prog 77 #[v] w fun e w' => e = .returned (.bool (badPage l)) ∧ Below w.heap.size w w' := by
  obtain ⟨a, c, rfl, hr, hm⟩ := h
  have H := Lib.hid (show ((l.length : Int) != 64) = badPage l from dec_ne.symm)
  go_enter Try.func77, Try.ntmps77
  go_wp2
  go_ret
  exact ⟨ret_bool H.out, Below.refl _ _⟩
theorem bad_yes {v : Value} {l : List UInt8} {w : World} (h : IsBytes w v l) (b : Bool) (hb : badPage l = b) :
    Calls Try.prog 77 #[v] w fun e w' => e = .returned (.bool b) ∧ Below w.heap.size w w' := by
  subst hb; exact bad_any v l w h
/-- What a search comes to: the index of an element, or -1. -/
def Found (b : Bool) (w : World) (e : Ending) (w' : World) : Prop := ((b = false ∧ e = .returned (.int .i64 (-1))) ∨ (b = true ∧ ∃ k : Nat, k ≤ 9223372036854775807 ∧ e = .returned (.int .i64 k))) ∧ Below w.heap.size w w'
theorem idx_bad (v : Value) (L : List (List UInt8)) (w : World) (h : IsPages w v L) :
    Calls Try.prog 89 #[v, .func (.func 77) #[] #[]] w (Found (L.any badPage) w) := by
  have h0 := h
  obtain ⟨a, c, rfl, hm⟩ := h.shape
  go_enter Try.func89, Try.ntmps89
  go_wp2
  go_loopw [5, 8] (fun _ i wr => ∃ k : Nat, k ≤ L.length ∧ i = .int .i64 k ∧ Hid (∀ y ∈ L.take k, badPage y = false) ∧ Below w.heap.size w wr) (fun _ i _ => L.length - (intOf i).toNat)
  case atStart => exact ⟨0, Nat.zero_le _, rfl, Lib.hid (by simp), Below.refl _ _⟩
  case round =>
    obtain ⟨k, hk, rfl, hno, hb⟩ := hrel
    by_cases hlt : k < L.length
    · obtain ⟨b, off, pa, pc, rfl, hc, hp⟩ := (h0.keep hb).at_ (List.getElem?_eq_getElem hlt)
      cases hq : badPage L[k]
      · have hno' : Hid (∀ y ∈ L.take (k + 1), badPage y = false) := Lib.hid (by
          intro y hy
          rw [List.take_succ_eq_append_getElem hlt, List.mem_append] at hy
          rcases hy with hy | hy
          · exact hno.out y hy
          · have : y = L[k] := by simpa using hy
            rw [this]; exact hq)
        generalize L[k] = l at *
        have HQ := Lib.hid hq
        clear hq
        go_wp2_with fail
        refine (bad_yes hp false HQ.out).mono ?_
        rintro e w1 ⟨rfl, b1⟩
        go_wp2
        go_roundw
        case rel => exact ⟨k + 1, by omega, by go_num, hno', below_trans hb b1⟩
        case measure => simp [intOf]; omega
      · have HA := Lib.hid (show L.any badPage = true from List.any_eq_true.2 ⟨L[k], List.getElem_mem hlt, hq⟩)
        generalize L[k] = l at *
        have HQ := Lib.hid hq
        clear hq
        go_wp2_with fail
        refine (bad_yes hp true HQ.out).mono ?_
        rintro e w1 ⟨rfl, b1⟩
        go_wp2
        go_ret
        exact ⟨.inr ⟨HA.out, k, by omega, rfl⟩, below_trans hb b1⟩
    · have e : k = L.length := by omega
      have HA := Lib.hid (show L.any badPage = false by
        have := hno.out
        rw [e, List.take_length] at this
        exact List.any_eq_false.2 (by simpa using this))
      subst e
      go_wp2
      go_ret
      exact ⟨.inl ⟨HA.out, rfl⟩, hb⟩
theorem has_bad (v : Value) (L : List (List UInt8)) (w : World) (h : IsPages w v L) :
    Calls Try.prog 79 #[v, .func (.func 77) #[] #[]] w fun e w' => e = .returned (.bool (L.any badPage)) ∧ Below w.heap.size w w' := by
  have hI := idx_bad v L w h
  obtain ⟨a, c, rfl, hm⟩ := h.shape
  generalize L.any badPage = q at *
  go_enter Try.func79, Try.ntmps79
  go_wp2_with fail
  refine hI.mono ?_
  rintro e w1 ⟨⟨rfl, rfl⟩ | ⟨rfl, k, hk, rfl⟩, b1⟩
  · go_wp2
    go_ret
    exact ⟨rfl, b1⟩
  · go_wp2
    go_ret
    exact ⟨rfl, b1⟩
def wV (at_ : Int) (d : Value) : Value := .agg #[.int .i64 at_, d]
theorem odd_any (at_ : Int) (dv : Value) (l : List UInt8) (g : Nat) (w : World) (h : IsBytes w dv l) (hg : w.cell? ⟨g, 0, none⟩ = some (.func (.func 77) #[] #[])) :
    Calls Try.prog 78 #[wV at_ dv, .pointer (some ⟨g, 0, none⟩)] w fun e w' => e = .returned (.bool (odd ⟨at_, l⟩)) ∧ Below w.heap.size w w' := by
  have h0 := h
  obtain ⟨a, c, rfl, hr, hm⟩ := h
  clear hr
  unfold wV
  have hgl := cell_lt hg
  have b0 := below_new w (.cells #[.int .i64 at_, .slice a l.length c] 49)
  have hx := cell_keep b0 hg
  by_cases h1 : at_ < 0
  · have H := Lib.hid (show odd ⟨at_, l⟩ = true by simp [odd, h1])
    have hd : decide (at_ < 0) = true := decide_eq_true h1
    go_enter Try.func78, Try.ntmps78
    go_wp2
    go_ret
    exact ⟨ret_bool H.out.symm, b0⟩
  · have hd : decide (at_ < 0) = false := decide_eq_false h1
    by_cases h2 : at_ ≥ 400
    · have H := Lib.hid (show odd ⟨at_, l⟩ = true by simp [odd, h2])
      go_enter Try.func78, Try.ntmps78
      go_wp2
      go_ret
      exact ⟨ret_bool H.out.symm, b0⟩
    · have H := Lib.hid (show odd ⟨at_, l⟩ = badPage l by simp [odd, h1, h2])
      have h3 : at_ < 400 := by omega
      go_enter Try.func78, Try.ntmps78
      go_wp2_with fail
      refine (bad_any _ l _ (h0.keep b0)).mono ?_
      rintro e w1 ⟨rfl, b1⟩
      go_wp2
      go_ret
      exact ⟨ret_bool H.out.symm, below_trans b0 b1⟩
end Go.Proofs.Ytcembocnkndlhaa
/- The reference's walks: WellFormed, failure, Small. -/
namespace Go.Proofs.Ytcembocnkndlhaa
open Go.RowKit
theorem take_all {α : Type} {L : List α} {p : α → Bool} {k : Nat} (hlt : k < L.length) (h : ∀ y ∈ L.take k, p y = false) (hq : p L[k] = false) : ∀ y ∈ L.take (k + 1), p y = false := by
  intro y hy
  rw [List.take_succ_eq_append_getElem hlt, List.mem_append] at hy
  rcases hy with hy | hy
  · exact h y hy
  · have : y = L[k] := by simpa using hy
    rw [this]; exact hq
set_option maxHeartbeats 4000000 in
set_option maxRecDepth 100000 in
theorem rformed_any (v : Value) (d : Dk) (w : World) (h : IsDisk w v d) :
    Calls Try.prog 38 #[v] w fun e w' => e = .returned (.bool (formed d)) ∧ Below w.heap.size w w' := by
  obtain ⟨pa, pc, wa, wcp, rfl, hp, hw, m1, m2, m3⟩ := h.shape
  obtain ⟨ps, ws, dn⟩ := d
  dsimp only at *
  have g0 := heap_alloc_new w (.cells #[.slice pa ps.length pc, .slice wa ws.length wcp, .bool dn] 25)
  have b0 := below_new w (.cells #[.slice pa ps.length pc, .slice wa ws.length wcp, .bool dn] 25)
  have hp0 := hp.keep b0
  have hw0 := hw.keep b0
  obtain ⟨F, hF⟩ : ∃ F, formed ⟨ps, ws, dn⟩ = F := ⟨_, rfl⟩
  have HF := Lib.hid hF
  rw [hF]
  clear hF
  by_cases hl : ps.length ≤ 400
  case neg =>
    have hn : F = false := by rw [← HF.out]; unfold formed; simp [hl]
    subst hn
    have hd : decide (400 < (ps.length : Int)) = true := decide_eq_true (by omega)
    go_enter Try.func38, Try.ntmps38
    go_wp2
    go_ret
    exact ⟨rfl, b0⟩
  have hd : decide (400 < (ps.length : Int)) = false := decide_eq_false (by omega)
  by_cases hdw : dn = true ∧ 0 < ws.length
  case pos =>
    obtain ⟨rfl, hw1⟩ := hdw
    have hn : F = false := by rw [← HF.out]; unfold formed; simp [hw1]
    subst hn
    have hd2 : decide (0 < (ws.length : Int)) = true := decide_eq_true (by omega)
    go_enter Try.func38, Try.ntmps38
    go_wp2
    go_ret
    exact ⟨rfl, b0⟩
  have HDW := Lib.hid (show (dn && decide (0 < ws.length)) = false by cases dn; rfl; simp at hdw; simp [hdw])
  have hdn : dn = false ∨ (dn = true ∧ ws.length = 0) := by
    cases dn
    · exact .inl rfl
    · exact .inr ⟨rfl, by simp at hdw; simp [hdw]⟩
  clear hdw
  have hgo : Calls Try.prog 38 #[.agg #[.slice pa ps.length pc, .slice wa ws.length wcp, .bool dn]] w fun e w' => e = .returned (.bool F) ∧ Below w.heap.size w w' := by
    rcases hdn with hdn | ⟨hdn, hw1⟩
    all_goals
      first
        | (have hd2 : decide (0 < (ws.length : Int)) = false := decide_eq_false (by omega); have hd3 : decide (0 < ws.length) = false := decide_eq_false (by omega))
        | skip
      try clear hw1
      subst hdn
      go_enter Try.func38, Try.ntmps38
      go_wp2
      go_loop [3] (fun i => ∃ k : Nat, k ≤ ps.length ∧ i = .int .i64 k ∧ Hid (∀ y ∈ ps.take k, badPage y = false)) (fun i => ps.length - (intOf i).toNat)
      case atStart => exact ⟨0, Nat.zero_le _, rfl, Lib.hid (by simp)⟩
      case round =>
        obtain ⟨k, hk, rfl, hno⟩ := hrel
        by_cases hlt : k < ps.length
        · obtain ⟨b, off, qa, qc, rfl, hc, hpb⟩ := hp0.at_ (List.getElem?_eq_getElem hlt)
          by_cases hq : ps[k].length = 64
          · have hno' : Hid (∀ y ∈ ps.take (k + 1), badPage y = false) := Lib.hid (take_all hlt hno.out (by simp [badPage, hq]))
            have hbq : ((ps[k].length : Int) != 64) = false := by rw [bne_eq_false_iff_eq]; omega
            generalize ps[k] = l at *
            have HQ := Lib.hid hq
            clear hq
            go_wp2
            go_round
            case rel => exact ⟨k + 1, by omega, by go_num, hno'⟩
            case measure => simp [intOf]; omega
          · have hn : F = false := by
              rw [← HF.out]; unfold formed
              have : ps.any badPage = true := List.any_eq_true.2 ⟨ps[k], List.getElem_mem hlt, by simp [badPage, hq]⟩
              simp [this]
            subst hn
            have hbq : ((ps[k].length : Int) != 64) = true := by rw [bne_iff_ne]; omega
            generalize ps[k] = l at *
            go_wp2
            go_ret
            exact ⟨rfl, b0⟩
        · have e : k = ps.length := by omega
          subst e
          have HP := Lib.hid (show ps.any badPage = false by
            have := hno.out
            rw [List.take_length] at this
            exact List.any_eq_false.2 (by simpa using this))
          go_wp2
          go_loop [4] (fun i => ∃ k : Nat, k ≤ ws.length ∧ i = .int .i64 k ∧ Hid (∀ y ∈ ws.take k, odd y = false)) (fun i => ws.length - (intOf i).toNat)
          case atStart => exact ⟨0, Nat.zero_le _, rfl, Lib.hid (by simp)⟩
          case round =>
            obtain ⟨k, hk, rfl, hnw⟩ := hrel
            by_cases hlw : k < ws.length
            · obtain ⟨b, off, qa, qc, rfl, c0, c1, hpb⟩ := hw0.at_ (List.getElem?_eq_getElem hlw)
              have hbad : odd ws[k] = true → F = false := fun ho => by
                rw [← HF.out]; unfold formed
                have : ws.any odd = true := List.any_eq_true.2 ⟨ws[k], List.getElem_mem hlw, ho⟩
                simp [this]
              have hgood : odd ws[k] = false → Hid (∀ y ∈ ws.take (k + 1), odd y = false) := fun ho => Lib.hid (take_all hlw hnw.out ho)
              generalize ws[k] = x at *
              by_cases h1 : x.at_ < 0
              · have hn := hbad (by simp [odd, h1])
                subst hn
                have hdd : decide (x.at_ < 0) = true := decide_eq_true h1
                clear hbad hgood
                go_wp2
                go_ret
                exact ⟨rfl, b0⟩
              · have hdd : decide (x.at_ < 0) = false := decide_eq_false h1
                by_cases h2 : x.at_ ≥ 400
                · have hn := hbad (by simp [odd, h2])
                  subst hn
                  have hdd2 : decide (400 ≤ x.at_) = true := decide_eq_true h2
                  clear hbad hgood
                  go_wp2
                  go_ret
                  exact ⟨rfl, b0⟩
                · have hdd2 : decide (400 ≤ x.at_) = false := decide_eq_false h2
                  by_cases h3 : x.data.length = 64
                  · have hok := hgood (by simp [odd, badPage, h3]; omega)
                    have hbq : ((x.data.length : Int) != 64) = false := by rw [bne_eq_false_iff_eq]; omega
                    clear hbad hgood h3
                    go_wp2
                    go_round
                    case rel => exact ⟨k + 1, by omega, by go_num, hok⟩
                    case measure => simp [intOf]; omega
                  · have hn := hbad (by simp [odd, badPage, h3])
                    subst hn
                    have hbq : ((x.data.length : Int) != 64) = true := by rw [bne_iff_ne]; omega
                    clear hbad hgood
                    go_wp2
                    go_ret
                    exact ⟨rfl, b0⟩
            · have e : k = ws.length := by omega
              subst e
              have hn : F = true := by
                have HW : ws.any odd = false := by
                  have := hnw.out
                  rw [List.take_length] at this
                  exact List.any_eq_false.2 (by simpa using this)
                rw [← HF.out]; unfold formed
                have h5 := HDW.out
                have h6 := HP.out
                simp only [HW, h6]
                simp at h5
                simp [hl, h5]
              subst hn
              go_wp2
              go_ret
              exact ⟨rfl, b0⟩
  exact hgo
end Go.Proofs.Ytcembocnkndlhaa
/- The reference's walks: failure, Small, SameBytes. -/
namespace Go.Proofs.Ytcembocnkndlhaa
open Go.RowKit
theorem rformed_eq {v : Value} {d : Dk} {w : World} (h : IsDisk w v d) (b : Bool) (hb : formed d = b) :
    Calls Try.prog 38 #[v] w fun e w' => e = .returned (.bool b) ∧ Below w.heap.size w w' := by
  subst hb; exact rformed_any v d w h
set_option maxHeartbeats 1000000 in
theorem rfailure_any (v : Value) (d : Dk) (k : Int) (w : World) (h : IsDisk w v d) :
    Calls Try.prog 59 #[v, .int .i64 k] w fun e w' => e = .returned (.int .i64 (failure d k)) ∧ Below w.heap.size w w' := by
  have h0 := h
  obtain ⟨pa, pc, wa, wcp, rfl, -, -, m1, m2⟩ := h.shape
  obtain ⟨C, hC⟩ : ∃ C, C = Obj.cells #[.slice pa d.pages.length pc, .slice wa d.writes.length wcp, .bool d.down] 25 := ⟨_, rfl⟩
  have b0 := below_new w C
  have x2 := fun w' (hb : Below (w.alloc C).heap.size (w.alloc C) w') => boxed (cs := #[.slice pa d.pages.length pc, .slice wa d.writes.length wcp, .bool d.down]) (t := 25) (w := w) (w' := w') (j := 2) rfl (by rw [← hC]; exact hb)
  cases hf : formed d
  · have H := Lib.hid (show failure d k = 1 by unfold failure; rw [hf]; rfl)
    have HF := Lib.hid hf
    clear hf x2
    go_enter Try.func59, Try.ntmps59
    go_wp2_with fail
    rw [← hC]
    refine (rformed_eq (h0.keep b0) _ HF.out).mono ?_
    rintro e w3 ⟨rfl, b3⟩
    go_wp2
    go_ret
    exact ⟨ret_int H.out.symm, below_trans b0 b3⟩
  · have HF := Lib.hid hf
    by_cases h1 : k < 0
    · have H := Lib.hid (show failure d k = 1 by unfold failure; rw [hf]; simp [h1])
      have hd : decide (k < 0) = true := decide_eq_true h1
      clear hf x2
      go_enter Try.func59, Try.ntmps59
      go_wp2_with fail
      rw [← hC]
      refine (rformed_eq (h0.keep b0) _ HF.out).mono ?_
      rintro e w3 ⟨rfl, b3⟩
      go_wp2
      go_ret
      exact ⟨ret_int H.out.symm, below_trans b0 b3⟩
    · have hd : decide (k < 0) = false := decide_eq_false h1
      by_cases h2 : k ≥ 400
      · have H := Lib.hid (show failure d k = 1 by unfold failure; rw [hf]; simp [h2])
        have hd2 : decide (400 ≤ k) = true := decide_eq_true h2
        clear hf x2
        go_enter Try.func59, Try.ntmps59
        go_wp2_with fail
        rw [← hC]
        refine (rformed_eq (h0.keep b0) _ HF.out).mono ?_
        rintro e w3 ⟨rfl, b3⟩
        go_wp2
        go_ret
        exact ⟨ret_int H.out.symm, below_trans b0 b3⟩
      · have hd2 : decide (400 ≤ k) = false := decide_eq_false h2
        have H := Lib.hid (show failure d k = if d.down = true then 350 else 0 by unfold failure; rw [hf, if_neg (by simp [h1]; omega)])
        clear hf
        go_enter Try.func59, Try.ntmps59
        go_wp2_with fail
        rw [← hC]
        refine (rformed_eq (h0.keep b0) _ HF.out).mono ?_
        rintro e w3 ⟨rfl, b3⟩
        have y2 := x2 _ b3
        clear x2
        obtain ⟨ps, ws, dn⟩ := d
        cases dn
        · go_wp2
          go_ret
          exact ⟨ret_int H.out.symm, below_trans b0 b3⟩
        · go_wp2
          go_ret
          exact ⟨ret_int H.out.symm, below_trans b0 b3⟩
theorem rfailure_eq {v : Value} {d : Dk} {k : Int} {w : World} (h : IsDisk w v d) (r : Int) (hr : failure d k = r) :
    Calls Try.prog 59 #[v, .int .i64 k] w fun e w' => e = .returned (.int .i64 r) ∧ Below w.heap.size w w' := by
  subst hr; exact rfailure_any v d k w h
theorem u8_eq {x y : UInt8} (h : x = y) : (((x.toNat : Nat) : Int) != ((y.toNat : Nat) : Int)) = false := by rw [h]; simp
theorem u8_ne {x y : UInt8} (h : x ≠ y) : (((x.toNat : Nat) : Int) != ((y.toNat : Nat) : Int)) = true := by
  rw [bne_iff_ne]; intro e; exact h (UInt8.toNat_inj.1 (by omega))
theorem take_same {α : Type} {a b : List α} {k : Nat} (ha : k < a.length) (hb : k < b.length) (h : a.take k = b.take k) (e : a[k] = b[k]) : a.take (k + 1) = b.take (k + 1) := by
  rw [List.take_succ_eq_append_getElem ha, List.take_succ_eq_append_getElem hb, h, e]
theorem differ_at {α : Type} {a b : List α} {k : Nat} (ha : k < a.length) (hb : k < b.length) (e : ¬a[k] = b[k]) : ¬a = b := by
  rintro rfl; exact e rfl
/-- What a quiet function that reads memory hands back. -/
def Says (q : Bool) (w : World) (e : Ending) (w' : World) : Prop := e = .returned (.bool q) ∧ ∃ n, w' = w.drewN n
theorem Says.below {q : Bool} {w w' : World} {e : Ending} (h : Says q w e w') : e = .returned (.bool q) ∧ Below w.heap.size w w' := by
  obtain ⟨h1, n, rfl⟩ := h
  exact ⟨h1, below_drewN (Below.refl _ _) n⟩
set_option maxHeartbeats 1000000 in
theorem SameBytes_any (va vb : Value) (a b : List UInt8) (w : World) (ha : IsBytes w va a) (hb : IsBytes w vb b) :
    Calls Try.prog 26 #[va, vb] w (Says (decide (a = b)) w) := by
  obtain ⟨pa, ca, rfl, ha, hma⟩ := ha
  obtain ⟨pb, cb, rfl, hb, hmb⟩ := hb
  by_cases hl : a.length = b.length
  · go_enter Try.func26, Try.ntmps26
    have hl' : ((a.length : Int) != b.length) = false := by rw [bne_eq_false_iff_eq]; omega
    have HL := Lib.hid hl
    have hle : a.length ≤ b.length := by omega
    clear hl
    go_wp2
    go_loopw [5] (fun i wr => ∃ k : Nat, k ≤ a.length ∧ i = .int .i64 k ∧ a.take k = b.take k ∧ ∃ n, wr = w.drewN n) (fun i _ => a.length - (intOf i).toNat)
    case atStart => exact ⟨0, Nat.zero_le _, rfl, by simp, 0, rfl⟩
    case round =>
      obtain ⟨k, hk, rfl, hno, n, rfl⟩ := hrel
      by_cases hlt : k < a.length
      · have hlt' : k < b.length := by omega
        obtain ⟨b1, o1, rfl, c1⟩ := ha.one (List.getElem?_eq_getElem hlt) rfl
        obtain ⟨b2, o2, rfl, c2⟩ := hb.one (List.getElem?_eq_getElem hlt') rfl
        by_cases he : a[k] = b[k]
        · have hq := u8_eq he
          have hno' := take_same hlt hlt' hno he
          clear he
          generalize a[k] = x at *
          generalize b[k] = y at *
          go_wp2
          go_quiet (fail)
          go_wp2
          go_roundw
          case rel => exact ⟨k + 1, by omega, by go_num, hno', n + nq, by simp⟩
          case measure => simp [intOf]; omega
        · have HD := Lib.hid (decide_eq_false (differ_at hlt hlt' he))
          have hq := u8_ne he
          generalize a[k] = x at *
          generalize b[k] = y at *
          go_wp2
          go_quiet (fail)
          go_wp2
          go_ret
          exact ⟨ret_bool HD.out.symm, n + nq, by simp⟩
      · have e : k = a.length := by omega
        subst e
        have hab : a = b := by rw [List.take_length, HL.out, List.take_length] at hno; exact hno
        have HD := Lib.hid (decide_eq_true hab)
        clear hab hno
        go_wp2
        go_ret
        exact ⟨ret_bool HD.out.symm, n, rfl⟩
  · have HD := Lib.hid (decide_eq_false (show ¬a = b from fun e => hl (by rw [e])))
    have hl' : ((a.length : Int) != b.length) = true := by rw [bne_iff_ne]; omega
    go_enter Try.func26, Try.ntmps26
    go_wp2
    go_ret
    exact ⟨ret_bool HD.out.symm, 0, rfl⟩
end Go.Proofs.Ytcembocnkndlhaa
/- The laws' helpers: Small. -/
namespace Go.Proofs.Ytcembocnkndlhaa
open Go.RowKit
def big (b : List UInt8) : Bool := decide (70 < b.length)
def smallD (d : Dk) : Bool := decide (d.pages.length ≤ 24) && decide (d.writes.length ≤ 24) && !d.pages.any big && !d.writes.any fun x => big x.data
set_option maxHeartbeats 4000000 in
set_option maxRecDepth 100000 in
theorem Small_any (v : Value) (d : Dk) (w : World) (h : IsDisk w v d) :
    Calls Try.prog 18 #[v] w fun e w' => e = .returned (.bool (smallD d)) ∧ Below w.heap.size w w' := by
  obtain ⟨pa, pc, wa, wcp, rfl, hp, hw, m1, m2, m3⟩ := h.shape
  obtain ⟨ps, ws, dn⟩ := d
  dsimp only at *
  have g0 := heap_alloc_new w (.cells #[.slice pa ps.length pc, .slice wa ws.length wcp, .bool dn] 25)
  have b0 := below_new w (.cells #[.slice pa ps.length pc, .slice wa ws.length wcp, .bool dn] 25)
  have hp0 := hp.keep b0
  have hw0 := hw.keep b0
  obtain ⟨F, hF⟩ : ∃ F, smallD ⟨ps, ws, dn⟩ = F := ⟨_, rfl⟩
  have HF := Lib.hid hF
  rw [hF]
  clear hF
  by_cases hl : ps.length ≤ 24
  case neg =>
    have hn : F = false := by rw [← HF.out]; unfold smallD; simp [hl]
    subst hn
    have hd : decide (24 < (ps.length : Int)) = true := decide_eq_true (by omega)
    go_enter Try.func18, Try.ntmps18
    go_wp2
    go_ret
    exact ⟨rfl, b0⟩
  have hd : decide (24 < (ps.length : Int)) = false := decide_eq_false (by omega)
  by_cases hl2 : ws.length ≤ 24
  case neg =>
    have hn : F = false := by rw [← HF.out]; unfold smallD; simp [hl2]
    subst hn
    have hd2 : decide (24 < (ws.length : Int)) = true := decide_eq_true (by omega)
    go_enter Try.func18, Try.ntmps18
    go_wp2
    go_ret
    exact ⟨rfl, b0⟩
  have hd2 : decide (24 < (ws.length : Int)) = false := decide_eq_false (by omega)
  go_enter Try.func18, Try.ntmps18
  go_wp2
  go_loop [3] (fun i => ∃ k : Nat, k ≤ ps.length ∧ i = .int .i64 k ∧ Hid (∀ y ∈ ps.take k, big y = false)) (fun i => ps.length - (intOf i).toNat)
  case atStart => exact ⟨0, Nat.zero_le _, rfl, Lib.hid (by simp)⟩
  case round =>
    obtain ⟨k, hk, rfl, hno⟩ := hrel
    by_cases hlt : k < ps.length
    · obtain ⟨b, off, qa, qc, rfl, hc, hpb⟩ := hp0.at_ (List.getElem?_eq_getElem hlt)
      by_cases hq : ps[k].length ≤ 70
      · have hno' : Hid (∀ y ∈ ps.take (k + 1), big y = false) := Lib.hid (take_all hlt hno.out (by simp [big, hq]))
        have hbq : decide (70 < (ps[k].length : Int)) = false := decide_eq_false (by omega)
        generalize ps[k] = l at *
        have HQ := Lib.hid hq
        clear hq
        go_wp2
        go_round
        case rel => exact ⟨k + 1, by omega, by go_num, hno'⟩
        case measure => simp [intOf]; omega
      · have hn : F = false := by
          rw [← HF.out]; unfold smallD
          have : ps.any big = true := List.any_eq_true.2 ⟨ps[k], List.getElem_mem hlt, by simp [big]; omega⟩
          simp [this]
        subst hn
        have hbq : decide (70 < (ps[k].length : Int)) = true := decide_eq_true (by omega)
        generalize ps[k] = l at *
        go_wp2
        go_ret
        exact ⟨rfl, b0⟩
    · have e : k = ps.length := by omega
      subst e
      have HP := Lib.hid (show ps.any big = false by
        have := hno.out
        rw [List.take_length] at this
        exact List.any_eq_false.2 (by simpa using this))
      go_wp2
      go_loop [4] (fun i => ∃ k : Nat, k ≤ ws.length ∧ i = .int .i64 k ∧ Hid (∀ y ∈ ws.take k, big y.data = false)) (fun i => ws.length - (intOf i).toNat)
      case atStart => exact ⟨0, Nat.zero_le _, rfl, Lib.hid (by simp)⟩
      case round =>
        obtain ⟨k, hk, rfl, hnw⟩ := hrel
        by_cases hlw : k < ws.length
        · obtain ⟨b, off, qa, qc, rfl, c0, c1, hpb⟩ := hw0.at_ (List.getElem?_eq_getElem hlw)
          by_cases h3 : ws[k].data.length ≤ 70
          · have hok := Lib.hid (take_all (p := fun y => big y.data) hlw hnw.out (by simp [big, h3]))
            have hbq : decide (70 < (ws[k].data.length : Int)) = false := decide_eq_false (by omega)
            generalize ws[k] = x at *
            clear h3
            go_wp2
            go_round
            case rel => exact ⟨k + 1, by omega, by go_num, hok⟩
            case measure => simp [intOf]; omega
          · have hn : F = false := by
              rw [← HF.out]; unfold smallD
              have : (ws.any fun x => big x.data) = true := List.any_eq_true.2 ⟨ws[k], List.getElem_mem hlw, by simp [big]; omega⟩
              simp [this]
            subst hn
            have hbq : decide (70 < (ws[k].data.length : Int)) = true := decide_eq_true (by omega)
            generalize ws[k] = x at *
            go_wp2
            go_ret
            exact ⟨rfl, b0⟩
        · have e : k = ws.length := by omega
          subst e
          have hn : F = true := by
            have HW : (ws.any fun x => big x.data) = false := by
              have := hnw.out
              rw [List.take_length] at this
              exact List.any_eq_false.2 (by simpa using this)
            rw [← HF.out]; unfold smallD
            have h6 := HP.out
            simp only [HW, h6]
            simp [hl, hl2]
          subst hn
          go_wp2
          go_ret
          exact ⟨rfl, b0⟩
theorem Small_eq {v : Value} {d : Dk} {w : World} (h : IsDisk w v d) (b : Bool) (hb : smallD d = b) :
    Calls Try.prog 18 #[v] w fun e w' => e = .returned (.bool b) ∧ Below w.heap.size w w' := by
  subst hb; exact Small_any v d w h
end Go.Proofs.Ytcembocnkndlhaa
/- The reference's walk: Same. -/
namespace Go.Proofs.Ytcembocnkndlhaa
open Go.RowKit
theorem bytes_quiet {va vb : Value} {a b : List UInt8} {w : World} (n : Nat) (ha : IsBytes w va a) (hb : IsBytes w vb b) (q : Bool) (hq : decide (a = b) = q) :
    Calls Try.prog 26 #[va, vb] (w.drewN n) fun e w'' => e = .returned (.bool q) ∧ ∃ m, w'' = w.drewN m := by
  subst hq
  refine (SameBytes_any va vb a b (w.drewN n) (ha.keep (below_drewN (Below.refl _ _) n)) (hb.keep (below_drewN (Below.refl _ _) n))).mono ?_
  rintro e w' ⟨h1, m, h2⟩
  exact ⟨h1, n + m, by rw [h2]; simp⟩
theorem page_ne {ps qs : List (List UInt8)} {k : Nat} (ha : k < ps.length) (hb : k < qs.length) (e : ¬ps[k] = qs[k]) : ¬ps = qs := differ_at ha hb e
set_option maxHeartbeats 4000000 in
set_option maxRecDepth 100000 in
theorem Same_any (va vb : Value) (da db : Dk) (w : World) (ha : IsDisk w va da) (hb : IsDisk w vb db) :
    Calls Try.prog 21 #[va, vb] w fun e w' => e = .returned (.bool (decide (da = db))) ∧ Below w.heap.size w w' := by
  obtain ⟨pa, pc, wa, wcp, rfl, hp, hw, m1, m2, m3⟩ := ha.shape
  obtain ⟨qa, qc, xa, xcp, rfl, hq, hx, n1, n2, n3⟩ := hb.shape
  obtain ⟨ps, ws, dn⟩ := da
  obtain ⟨qs, xs, dm⟩ := db
  dsimp only at *
  obtain ⟨R, hR⟩ : ∃ R, decide ((⟨ps, ws, dn⟩ : Dk) = ⟨qs, xs, dm⟩) = R := ⟨_, rfl⟩
  have HR := Lib.hid hR
  rw [hR]
  clear hR
  have hno : ¬ (⟨ps, ws, dn⟩ : Dk) = ⟨qs, xs, dm⟩ → R = false := fun h => by rw [← HR.out]; exact decide_eq_false h
  obtain ⟨W, hW⟩ : ∃ W, W = (w.alloc (.cells #[.slice pa ps.length pc, .slice wa ws.length wcp, .bool dn] 25)).alloc (.cells #[.slice qa qs.length qc, .slice xa xs.length xcp, .bool dm] 25) := ⟨_, rfl⟩
  have b0 : Below w.heap.size w W := by subst hW; exact below_trans (below_new _ _) (below_new _ _)
  have g0 : W.heap[w.heap.size]? = some (.cells #[.slice pa ps.length pc, .slice wa ws.length wcp, .bool dn] 25 (0, 0)) := by
    subst hW; exact block_keep (heap_alloc_new w _) (below_new _ _)
  have g1 : W.heap[w.heap.size + 1]? = some (.cells #[.slice qa qs.length qc, .slice xa xs.length xcp, .bool dm] 25 (0, 0)) := by
    have h2 : (w.alloc (.cells #[.slice pa ps.length pc, .slice wa ws.length wcp, .bool dn] 25)).heap.size = w.heap.size + 1 := by simp
    subst hW
    have := heap_alloc_new (w.alloc (.cells #[.slice pa ps.length pc, .slice wa ws.length wcp, .bool dn] 25)) (.cells #[.slice qa qs.length qc, .slice xa xs.length xcp, .bool dm] 25); rwa [h2] at this
  obtain ⟨y0, y1, y2, -, -, -⟩ := Box3.of g0
  obtain ⟨z0, z1, z2, -, -, -⟩ := Box3.of g1
  have hp0 := hp.keep b0
  have hw0 := hw.keep b0
  have hq0 := hq.keep b0
  have hx0 := hx.keep b0
  by_cases e1 : ps.length = qs.length
  case neg =>
    have hn := hno (fun e => e1 (congrArg (fun d => d.pages.length) e))
    subst hn
    have hb1 : ((ps.length : Int) != (qs.length : Int)) = true := by rw [bne_iff_ne]; omega
    clear hno y0 y1 y2 z0 z1 z2
    go_enter Try.func21, Try.ntmps21
    go_wp2
    go_ret
    rw [← hW]
    exact ⟨rfl, b0⟩
  have hb1 : ((ps.length : Int) != (qs.length : Int)) = false := by rw [bne_eq_false_iff_eq]; omega
  by_cases e2 : ws.length = xs.length
  case neg =>
    have hn := hno (fun e => e2 (congrArg (fun d => d.writes.length) e))
    subst hn
    have hb2 : ((ws.length : Int) != (xs.length : Int)) = true := by rw [bne_iff_ne]; omega
    clear hno y0 y1 y2 z0 z1 z2 e1
    go_enter Try.func21, Try.ntmps21
    go_wp2
    go_ret
    rw [← hW]
    exact ⟨rfl, b0⟩
  have hb2 : ((ws.length : Int) != (xs.length : Int)) = false := by rw [bne_eq_false_iff_eq]; omega
  by_cases e3 : dn = dm
  case neg =>
    have hn := hno (fun e => e3 (congrArg (fun d => d.down) e))
    subst hn
    have hb3 : (dn == dm) = false := by simpa using e3
    clear hno y0 y1 y2 z0 z1 z2 e1 e2
    go_enter Try.func21, Try.ntmps21
    go_wp2
    go_ret
    rw [← hW]
    exact ⟨rfl, b0⟩
  subst e3
  have E1 := Lib.hid e1
  have E2 := Lib.hid e2
  have i1 : ps.length ≤ qs.length := by omega
  have i2 : ws.length ≤ xs.length := by omega
  clear e1 e2
  go_enter Try.func21, Try.ntmps21
  go_wp2
  rw [← hW]
  clear hW g0 g1
  have hz0 : ∀ n, Below W.heap.size W (W.drewN n) := fun n => below_drewN (Below.refl _ _) n
  go_loopw [5, 6] (fun i _ wr => ∃ k : Nat, k ≤ ps.length ∧ i = .int .i64 k ∧ Hid (ps.take k = qs.take k) ∧ ∃ n, wr = W.drewN n) (fun i _ _ => ps.length - (intOf i).toNat)
  case atStart => exact ⟨0, Nat.zero_le _, rfl, Lib.hid (by simp), 0, rfl⟩
  case round =>
    obtain ⟨k, hk, rfl, hse, n, hwr⟩ := hrel
    obtain ⟨wo, rfl⟩ : ∃ wo : World, wo = wr := ⟨_, rfl⟩
    have b1 : Below W.heap.size W wo := by rw [hwr]; exact hz0 n
    have HW := Lib.hid hwr
    have x0 := cell_keep b1 y0
    have x1 := cell_keep b1 y1
    have v0 := cell_keep b1 z0
    have v1 := cell_keep b1 z1
    have bo := below_trans b0 b1
    clear hwr
    by_cases hlt : k < ps.length
    · have hlt' : k < qs.length := by omega
      obtain ⟨b1, o1, va, vc, rfl, c1, hB1⟩ := (hp0.keep b1).at_ (List.getElem?_eq_getElem hlt)
      obtain ⟨b2, o2, vb, vd, rfl, c2, hB2⟩ := (hq0.keep ‹_›).at_ (List.getElem?_eq_getElem hlt')
      by_cases he : ps[k] = qs[k]
      · have hse' := Lib.hid (take_same hlt hlt' hse.out he)
        have hQ := fun n => Lib.hid (bytes_quiet n hB1 hB2 true (decide_eq_true he))
        clear he
        generalize ps[k] = x at *
        generalize qs[k] = y at *
        go_wp2
        go_quiet ((go_at_call 26; exact (hQ _).out))
        go_wp2
        go_roundw
        case rel => exact ⟨k + 1, by omega, by go_num, hse', n + nq, by rw [HW.out]; simp⟩
        case measure => simp [intOf]; omega
      · have hn := hno (fun e => he (by
          have := congrArg (fun d => d.pages) e
          dsimp only at this
          subst this; rfl))
        subst hn
        have hQ := fun n => Lib.hid (bytes_quiet n hB1 hB2 false (decide_eq_false he))
        clear he hno
        generalize ps[k] = x at *
        generalize qs[k] = y at *
        go_wp2
        go_quiet ((go_at_call 26; exact (hQ _).out))
        go_wp2
        go_ret
        exact ⟨rfl, below_drewN bo _⟩
    · have e : k = ps.length := by omega
      subst e
      have HPQ := Lib.hid (show ps = qs by have := hse.out; rw [List.take_length, E1.out, List.take_length] at this; exact this)
      obtain ⟨w1, hw1⟩ : ∃ w1 : World, w1 = wo := ⟨_, rfl⟩
      have HW1 := Lib.hid hw1
      rw [← hw1] at x0 x1 v0 v1 bo ⊢
      have hw1' : Below W.heap.size W w1 := by rw [hw1]; exact b1
      have hws1 := hw0.keep hw1'
      have hxs1 := hx0.keep hw1'
      clear hw1 y0 y1 y2 z0 z1 z2 hz0 b1 hw1' hw0 hx0 hp0 hq0 hlt
      go_wp2
      go_loopw [7] (fun i wr => ∃ k : Nat, k ≤ ws.length ∧ i = .int .i64 k ∧ Hid (ws.take k = xs.take k) ∧ ∃ n, wr = w1.drewN n) (fun i _ => ws.length - (intOf i).toNat)
      case atStart => exact ⟨0, Nat.zero_le _, rfl, Lib.hid (by simp), 0, rfl⟩
      case round =>
        obtain ⟨k, hk, rfl, hse2, n2, hwr⟩ := hrel
        obtain ⟨wo2, rfl⟩ : ∃ wo : World, wo = wr := ⟨_, rfl⟩
        have b1 : Below w1.heap.size w1 wo2 := by rw [hwr]; exact below_drewN (Below.refl _ _) n2
        have HW2 := Lib.hid hwr
        have r0 := cell_keep b1 x0
        have r1 := cell_keep b1 x1
        have s0 := cell_keep b1 v0
        have s1 := cell_keep b1 v1
        have bo2 := below_trans bo b1
        clear hwr
        by_cases hlt : k < ws.length
        · have hlt' : k < xs.length := by omega
          obtain ⟨b1, o1, va, vc, rfl, c1, d1, hB1⟩ := (hws1.keep b1).at_ (List.getElem?_eq_getElem hlt)
          obtain ⟨b2, o2, vb, vd, rfl, c2, d2, hB2⟩ := (hxs1.keep ‹_›).at_ (List.getElem?_eq_getElem hlt')
          have hg1 : (0 : Int) ≤ (k : Int) := by omega
          have hg2 : (k : Int) < (ws.length : Int) := by omega
          have hg3 : (k : Int) < (xs.length : Int) := by omega
          by_cases ha : ws[k].at_ = xs[k].at_
          · have hba : (ws[k].at_ != xs[k].at_) = false := by rw [ha]; simp
            by_cases he : ws[k].data = xs[k].data
            · have hse' := Lib.hid (take_same hlt hlt' hse2.out (Wt.ext' ha he))
              have hQ := fun n => Lib.hid (bytes_quiet n hB1 hB2 true (decide_eq_true he))
              clear he ha
              generalize ws[k] = x at *
              generalize xs[k] = y at *
              go_wp2
              go_quiet ((go_at_call 26; exact (hQ _).out))
              go_wp2
              go_roundw
              case rel => exact ⟨k + 1, by omega, by go_num, hse', n2 + nq, by rw [HW2.out]; simp⟩
              case measure => simp [intOf]; omega
            · have hn := hno (fun e => he (by
                have := congrArg (fun d => d.writes) e
                dsimp only at this
                subst this; rfl))
              subst hn
              have hQ := fun n => Lib.hid (bytes_quiet n hB1 hB2 false (decide_eq_false he))
              clear he hno ha
              generalize ws[k] = x at *
              generalize xs[k] = y at *
              go_wp2
              go_quiet ((go_at_call 26; exact (hQ _).out))
              go_wp2
              go_ret
              exact ⟨rfl, below_drewN bo2 _⟩
          · have hba : (ws[k].at_ != xs[k].at_) = true := by simpa using ha
            have hn := hno (fun e => ha (by
                have := congrArg (fun d => d.writes) e
                dsimp only at this
                subst this; rfl))
            subst hn
            clear ha hno
            generalize ws[k] = x at *
            generalize xs[k] = y at *
            go_wp2
            go_quiet (fail)
            go_wp2
            go_ret
            exact ⟨rfl, below_drewN bo2 _⟩
        · have e : k = ws.length := by omega
          subst e
          have hn : R = true := by
            rw [← HR.out]
            have h1 := hse2.out
            rw [List.take_length, E2.out, List.take_length] at h1
            exact decide_eq_true (Dk.ext' HPQ.out h1 rfl)
          subst hn
          go_wp2
          go_ret
          exact ⟨rfl, bo2⟩
end Go.Proofs.Ytcembocnkndlhaa
/- The walks of formed and failure. -/
namespace Go.Proofs.Ytcembocnkndlhaa
open Go.RowKit
theorem odd_yes {x : Wt} {dv : Value} {g : Nat} {w : World} (h : IsBytes w dv x.data) (hg : w.cell? ⟨g, 0, none⟩ = some (.func (.func 77) #[] #[])) (b : Bool) (hb : odd x = b) :
    Calls Try.prog 78 #[.agg #[.int .i64 x.at_, dv], .pointer (some ⟨g, 0, none⟩)] w fun e w' => e = .returned (.bool b) ∧ Below w.heap.size w w' := by
  subst hb; exact odd_any x.at_ dv x.data g w h hg
set_option maxHeartbeats 400000 in
theorem idx_odd (v : Value) (L : List Wt) (g : Nat) (w : World) (h : IsWrites w v L) (hg : w.cell? ⟨g, 0, none⟩ = some (.func (.func 77) #[] #[])) :
    Calls Try.prog 90 #[v, .func (.func 78) #[] #[.pointer (some ⟨g, 0, none⟩)]] w (Found (L.any odd) w) := by
  have h0 := h
  obtain ⟨a, c, rfl, hm⟩ := h.shape
  go_enter Try.func90, Try.ntmps90
  go_wp2
  go_loopw [5, 8] (fun _ i wr => ∃ k : Nat, k ≤ L.length ∧ i = .int .i64 k ∧ Hid (∀ y ∈ L.take k, odd y = false) ∧ Below w.heap.size w wr) (fun _ i _ => L.length - (intOf i).toNat)
  case atStart => exact ⟨0, Nat.zero_le _, rfl, Lib.hid (by simp), Below.refl _ _⟩
  case round =>
    obtain ⟨k, hk, rfl, hno, hb⟩ := hrel
    have hg' := cell_keep hb hg
    by_cases hlt : k < L.length
    · obtain ⟨b, off, pa, pc, rfl, hc, hc', hp⟩ := (h0.keep hb).at_ (List.getElem?_eq_getElem hlt)
      cases hq : odd L[k]
      · have hno' : Hid (∀ y ∈ L.take (k + 1), odd y = false) := Lib.hid (by
          intro y hy
          rw [List.take_succ_eq_append_getElem hlt, List.mem_append] at hy
          rcases hy with hy | hy
          · exact hno.out y hy
          · have : y = L[k] := by simpa using hy
            rw [this]; exact hq)
        generalize L[k] = l at *
        have HQ := Lib.hid hq
        clear hq
        go_wp2_with fail
        refine (odd_yes hp hg' false HQ.out).mono ?_
        rintro e w1 ⟨rfl, b1⟩
        go_wp2
        go_roundw
        case rel => exact ⟨k + 1, by omega, by go_num, hno', below_trans hb b1⟩
        case measure => simp [intOf]; omega
      · have HA := Lib.hid (show L.any odd = true from List.any_eq_true.2 ⟨L[k], List.getElem_mem hlt, hq⟩)
        generalize L[k] = l at *
        have HQ := Lib.hid hq
        clear hq
        go_wp2_with fail
        refine (odd_yes hp hg' true HQ.out).mono ?_
        rintro e w1 ⟨rfl, b1⟩
        go_wp2
        go_ret
        exact ⟨.inr ⟨HA.out, k, by omega, rfl⟩, below_trans hb b1⟩
    · have e : k = L.length := by omega
      have HA := Lib.hid (show L.any odd = false by
        have := hno.out
        rw [e, List.take_length] at this
        exact List.any_eq_false.2 (by simpa using this))
      subst e
      go_wp2
      go_ret
      exact ⟨.inl ⟨HA.out, rfl⟩, hb⟩
theorem has_odd (v : Value) (L : List Wt) (g : Nat) (w : World) (h : IsWrites w v L) (hg : w.cell? ⟨g, 0, none⟩ = some (.func (.func 77) #[] #[])) :
    Calls Try.prog 80 #[v, .func (.func 78) #[] #[.pointer (some ⟨g, 0, none⟩)]] w fun e w' => e = .returned (.bool (L.any odd)) ∧ Below w.heap.size w w' := by
  have hI := idx_odd v L g w h hg
  obtain ⟨a, c, rfl, hm⟩ := h.shape
  generalize L.any odd = q at *
  go_enter Try.func80, Try.ntmps80
  go_wp2_with fail
  refine hI.mono ?_
  rintro e w1 ⟨⟨rfl, rfl⟩ | ⟨rfl, k, hk, rfl⟩, b1⟩
  · go_wp2
    go_ret
    exact ⟨rfl, b1⟩
  · go_wp2
    go_ret
    exact ⟨rfl, b1⟩
theorem has_bad_eq {v : Value} {L : List (List UInt8)} {w : World} (h : IsPages w v L) (b : Bool) (hb : L.any badPage = b) :
    Calls Try.prog 79 #[v, .func (.func 77) #[] #[]] w fun e w' => e = .returned (.bool b) ∧ Below w.heap.size w w' := by
  subst hb; exact has_bad v L w h
theorem has_odd_eq {v : Value} {L : List Wt} {g : Nat} {w : World} (h : IsWrites w v L) (hg : w.cell? ⟨g, 0, none⟩ = some (.func (.func 77) #[] #[])) (b : Bool) (hb : L.any odd = b) :
    Calls Try.prog 80 #[v, .func (.func 78) #[] #[.pointer (some ⟨g, 0, none⟩)]] w fun e w' => e = .returned (.bool b) ∧ Below w.heap.size w w' := by
  subst hb; exact has_odd v L g w h hg
set_option maxHeartbeats 1000000 in
theorem formed_any (v : Value) (d : Dk) (w : World) (h : IsDisk w v d) :
    Calls Try.prog 65 #[v] w fun e w' => e = .returned (.bool (formed d)) ∧ Below w.heap.size w w' := by
  obtain ⟨pa, pc, wa, wc, rfl, hp, hw, m1, m2⟩ := h.shape
  obtain ⟨ps, ws, dn⟩ := d
  dsimp only at *
  obtain ⟨wb, hwb⟩ : ∃ x : World, x = (w.alloc (.cells #[.slice pa ps.length pc, .slice wa ws.length wc, .bool dn] 25)).alloc (.cells #[.func (.func 77) #[] #[]] 99) := ⟨_, rfl⟩
  have b1 := below_new w (.cells #[.slice pa ps.length pc, .slice wa ws.length wc, .bool dn] 25)
  have b2 : Below (w.alloc (.cells #[.slice pa ps.length pc, .slice wa ws.length wc, .bool dn] 25)).heap.size (w.alloc (.cells #[.slice pa ps.length pc, .slice wa ws.length wc, .bool dn] 25)) wb := by subst hwb; exact below_new _ _
  have b0 : Below w.heap.size w wb := below_trans b1 b2
  have x0 := fun w' (hb : Below wb.heap.size wb w') => boxed (j := 0) rfl (below_trans b2 hb)
  have x1 := fun w' (hb : Below wb.heap.size wb w') => boxed (j := 1) rfl (below_trans b2 hb)
  have x2 := fun w' (hb : Below wb.heap.size wb w') => boxed (j := 2) rfl (below_trans b2 hb)
  have x3 : ∀ w', Below wb.heap.size wb w' → w'.cell? ⟨w.heap.size + 1, 0, none⟩ = some (.func (.func 77) #[] #[]) := fun w' hb => by
    subst hwb
    have := boxed (j := 0) rfl hb
    simpa using this
  by_cases hl : ps.length ≤ 400
  · have hd : decide ((ps.length : Int) ≤ 400) = true := decide_eq_true (by omega)
    cases hA : ps.any badPage
    · cases hB : ws.any odd
      · have H := Lib.hid (show formed ⟨ps, ws, dn⟩ = !(dn && decide (0 < ws.length)) by unfold formed; simp only [hA, hB]; simp [hl])
        have HA := Lib.hid hA
        have HB := Lib.hid hB
        clear hA hB
        go_enter Try.func65, Try.ntmps65
        go_wp2_with fail
        rw [← hwb]
        refine (has_bad_eq (hp.keep b0) _ HA.out).mono ?_
        rintro e w3 ⟨rfl, b3⟩
        have y1 := x1 _ b3
        have y3 := x3 _ b3
        go_wp2_with fail
        refine (has_odd_eq (hw.keep (below_trans b0 b3)) y3 _ HB.out).mono ?_
        rintro e w4 ⟨rfl, b4⟩
        have b5 := below_trans b3 b4
        clear y1 y3
        have y1 := x1 _ b5
        have y2 := x2 _ b5
        clear x0 x1 x2 x3
        cases dn
        · go_wp2
          go_ret
          exact ⟨ret_bool H.out.symm, below_trans b0 b5⟩
        · go_wp2
          go_ret
          exact ⟨ret_bool (by rw [H.out]; simp), below_trans b0 b5⟩
      · have H := Lib.hid (show formed ⟨ps, ws, dn⟩ = false by unfold formed; simp only [hA, hB]; simp [hl])
        have HA := Lib.hid hA
        have HB := Lib.hid hB
        clear hA hB
        go_enter Try.func65, Try.ntmps65
        go_wp2_with fail
        rw [← hwb]
        refine (has_bad_eq (hp.keep b0) _ HA.out).mono ?_
        rintro e w3 ⟨rfl, b3⟩
        have y1 := x1 _ b3
        have y3 := x3 _ b3
        go_wp2_with fail
        refine (has_odd_eq (hw.keep (below_trans b0 b3)) y3 _ HB.out).mono ?_
        rintro e w4 ⟨rfl, b4⟩
        clear x0 x1 x2 x3
        go_wp2
        go_ret
        exact ⟨ret_bool H.out.symm, below_trans b0 (below_trans b3 b4)⟩
    · have H := Lib.hid (show formed ⟨ps, ws, dn⟩ = false by unfold formed; simp only [hA]; simp)
      have HA := Lib.hid hA
      clear hA
      go_enter Try.func65, Try.ntmps65
      go_wp2_with fail
      rw [← hwb]
      refine (has_bad_eq (hp.keep b0) _ HA.out).mono ?_
      rintro e w3 ⟨rfl, b3⟩
      clear x0 x1 x2 x3
      go_wp2
      go_ret
      exact ⟨ret_bool H.out.symm, below_trans b0 b3⟩
  · have H := Lib.hid (show formed ⟨ps, ws, dn⟩ = false by unfold formed; simp [hl])
    have hd : decide ((ps.length : Int) ≤ 400) = false := decide_eq_false (by omega)
    clear x0 x1 x2 x3
    go_enter Try.func65, Try.ntmps65
    go_wp2_with fail
    go_ret
    rw [← hwb]
    exact ⟨ret_bool H.out.symm, b0⟩
end Go.Proofs.Ytcembocnkndlhaa
/- append of a slice that reads as records onto a slice that the call owns: whatever its length, in a region that draws its order too. -/
namespace Go.Proofs.Ytcembocnkndlhaa
open Go.RowKit
theorem flat_at {α : Type} {k : Nat} {enc : α → List Value} : ∀ (l : List α), (∀ x ∈ l, (enc x).length = k) → ∀ (J : Nat) (u : Value), (l.flatMap enc)[J]? = some u → ∃ i x j, l[i]? = some x ∧ (enc x)[j]? = some u ∧ J = i * k + j
  | [], _, J, u, h => by simp at h
  | y :: r, hl, J, u, h => by
    have hy : (enc y).length = k := hl y (by simp)
    rw [List.flatMap_cons] at h
    by_cases hJ : J < k
    · rw [List.getElem?_append_left (by omega)] at h
      exact ⟨0, y, J, rfl, h, by simp⟩
    · rw [List.getElem?_append_right (by omega), hy] at h
      obtain ⟨i, x, j, hi, hj, e⟩ := flat_at r (fun z hz => hl z (by simp [hz])) _ u h
      exact ⟨i + 1, x, j, by simpa using hi, hj, by rw [Nat.add_mul]; omega⟩
theorem flat_len {α : Type} {k : Nat} {enc : α → List Value} : ∀ (l : List α), (∀ x ∈ l, (enc x).length = k) → (l.flatMap enc).length = l.length * k
  | [], _ => by simp
  | y :: r, hl => by
    rw [List.flatMap_cons, List.length_append, hl y (by simp), flat_len r (fun z hz => hl z (by simp [hz])), List.length_cons, Nat.add_mul]; omega
theorem run_append_rows {α : Type} {w : World} (enc : α → List Value) (t ty : TypeId) (base : Nat) (e : TypeId) (i : TypeInfo) (z : Value) (size bytes : Nat) (ht : Try.prog.underlying t = some (.slice e)) (hi : Try.prog.info? e = some i) (hz : i.zero = some z)
    (hsize : i.size = size) (hby : i.bytes = bytes) (hzs : z.cells.size = size) (hsz : 0 < size)
    (v : Value) (n : Nat) (xs : List Value) (hown : w.ownsRow base e size v n xs) (x : Value) (l : List α) (hx : IsRows size enc w x l) (hl : ∀ y ∈ l, (enc y).length = size) (h1 : ∀ y ∈ l, ∀ u ∈ enc y, u.oneCell' = true)
    (h63 : n + l.length ≤ maxLen) (hbytes : (n + l.length) * bytes ≤ 140737488355328) (hbase : base ≤ w.heap.size) :
    ∃ v' w', (Builtin.append_ #[t, t] ty #[v, x]).run Try.prog w = .ok v' w' ∧ w'.ownsRow base e size v' (n + l.length) (xs ++ l.flatMap enc) ∧ w.grownBy w' v.ownBlock ∧ (v'.ownBlock = v.ownBlock ∨ v'.ownBlock = some w.heap.size) := by
  obtain ⟨a, c, rfl, hr, hm⟩ := hx
  cases a with
  | none =>
    have hnil : l = [] := by
      rcases hr with h | ⟨b, off, ha, _⟩
      · exact h
      · cases ha
    subst hnil
    have hgr : w.grownBy w v.ownBlock := ⟨rfl, rfl, rfl, Nat.le_refl _, fun _ _ _ => rfl⟩
    have hs : Src Try.prog i.size t (.slice none 0 c) 0 [] w := ⟨.inl ⟨e, ht⟩, fun _ => by rfl, by rfl, by rfl, by simp, by simp⟩
    rcases hown.2 with ⟨rfl, h0⟩ | ⟨g, cap, cur, rfl, hb, hg, hnc, hcm, hcs, htake⟩
    · exact ⟨_, _, run_append_nothing w t t ty e i ht hi none 0 0 (Nat.le_refl _) _ hs, by simpa using hown, hgr, .inl rfl⟩
    · exact ⟨_, _, run_append_nothing w t t ty e i ht hi _ n cap hnc _ hs, by simpa using hown, hgr, .inl rfl⟩
  | some ad =>
    have hnews : ∀ J u, (l.flatMap enc)[J]? = some u → w.cell? (ad.add J) = some u := by
      intro J u hJ
      obtain ⟨i, y, j, hi, hj, rfl⟩ := flat_at l hl J u hJ
      obtain ⟨b, off, ha, hc⟩ := hr.at_ hi
      obtain rfl : ad = ⟨b, off, none⟩ := by simpa using ha
      have := hc i y hi j u hj
      have hadd : (⟨b, off, none⟩ : Addr).add (i * size + j) = ⟨b, off + i * size + j, none⟩ := by
        unfold Addr.add; split
        · rename_i h0; rw [Nat.add_assoc, h0]; simp
        · rw [Nat.add_assoc]
      rw [hadd]; exact this
    have h1' : ∀ u ∈ l.flatMap enc, u.oneCell' = true := fun u hu => by
      obtain ⟨y, hy, hu⟩ := List.mem_flatMap.1 hu
      exact h1 y hy u hu
    obtain ⟨v', w', hrun, h2, h3, -, h5⟩ := run_append_own_at (P := Try.prog) w base t ty e i z size bytes ht hi hz hsize hby hzs hsz v n xs hown ad l.length c (l.flatMap enc) (flat_len l hl) hnews h1' h63 hbytes hbase
    exact ⟨v', w', hrun, h2, h3, h5⟩
theorem wp_append_rows {α : Type} {w : World} {o : Oper} {a : Act} {K : Act → World → Prop} {Q : Exit → Act → World → Prop} (enc : α → List Value) (s y : Operand) (t : TypeId)
    (ho : o.op = .call { callee := .builtin .append, args := #[s, y], argTypes := #[t, t] }) (base : Nat) (e : TypeId) (i : TypeInfo) (z : Value) (size bytes : Nat) (ht : Try.prog.underlying t = some (.slice e)) (hi : Try.prog.info? e = some i) (hz : i.zero = some z)
    (hsize : i.size = size) (hby : i.bytes = bytes) (hzs : z.cells.size = size) (hsz : 0 < size)
    (v : Value) (n : Nat) (xs : List Value) (hs : a.eval s = v) (hown : w.ownsRow base e size v n xs) (x : Value) (l : List α) (hx' : a.eval y = x) (hx : IsRows size enc w x l) (hl : ∀ y ∈ l, (enc y).length = size) (h1 : ∀ y ∈ l, ∀ u ∈ enc y, u.oneCell' = true)
    (h63 : n + l.length ≤ maxLen) (hbytes : (n + l.length) * bytes ≤ 140737488355328) (hbase : base ≤ w.heap.size)
    (h : ∀ v' w', w'.ownsRow base e size v' (n + l.length) (xs ++ l.flatMap enc) → w.grownBy w' v.ownBlock → (v'.ownBlock = v.ownBlock ∨ v'.ownBlock = some w.heap.size) → K (a.put o.dst v') w') : o.wp Try.prog a w K Q := by
  obtain ⟨v', w', hr, h2, h3, h4⟩ := run_append_rows enc t o.type base e i z size bytes ht hi hz hsize hby hzs hsz v n xs hown x l hx hl h1 h63 hbytes hbase
  unfold Oper.wp execOp
  simp only [ho, resolve, invoke, builtin, Sem.run_bind, Sem.run_pure, Result.andThen_ok, List.map_toArray, List.map_cons, List.map_nil, hs, hx', hr]
  exact h v' w' h2 h3 h4
theorem wpList_append_rows {α : Type} {w : World} {ops : Array Oper} {rest : List Oper} {o : Oper} {a : Act} {Q : Exit → Act → World → Prop} (hgd : o.guard = none) (enc : α → List Value) (s y : Operand) (t : TypeId)
    (ho : o.op = .call { callee := .builtin .append, args := #[s, y], argTypes := #[t, t] }) (base : Nat) (e : TypeId) (i : TypeInfo) (z : Value) (size bytes : Nat) (ht : Try.prog.underlying t = some (.slice e)) (hi : Try.prog.info? e = some i) (hz : i.zero = some z)
    (hsize : i.size = size) (hby : i.bytes = bytes) (hzs : z.cells.size = size) (hsz : 0 < size)
    (v : Value) (n : Nat) (xs : List Value) (hs : a.eval s = v) (hown : w.ownsRow base e size v n xs) (x : Value) (l : List α) (hx' : a.eval y = x) (hx : IsRows size enc w x l) (hl : ∀ y ∈ l, (enc y).length = size) (h1 : ∀ y ∈ l, ∀ u ∈ enc y, u.oneCell' = true)
    (h63 : n + l.length ≤ maxLen) (hbytes : (n + l.length) * bytes ≤ 140737488355328) (hbase : base ≤ w.heap.size)
    (h : ∀ v' w', w'.ownsRow base e size v' (n + l.length) (xs ++ l.flatMap enc) → w.grownBy w' v.ownBlock → (v'.ownBlock = v.ownBlock ∨ v'.ownBlock = some w.heap.size) → wpList Try.prog ops Q rest (a.put o.dst v') w') : wpList Try.prog ops Q (o :: rest) a w :=
  wpList_plain hgd fun _ hK => wp_append_rows enc s y t ho base e i z size bytes ht hi hz hsize hby hzs hsz v n xs hs hown x l hx' hx hl h1 h63 hbytes hbase fun v' w' h2 h3 h4 => hK _ _ (h v' w' h2 h3 h4)
/-- In a region that draws its order, guarded or not. -/
theorem step_append_rows {α : Type} {w : World} {ops : Array Oper} {o : Oper} {a : Act} {K : Act → World → Prop} {Q : Exit → Act → World → Prop} {E : Prop} (hw : Region.wanted o (yielded ops a.tmps) = true) (enc : α → List Value) (s y : Operand) (t : TypeId)
    (ho : o.op = .call { callee := .builtin .append, args := #[s, y], argTypes := #[t, t] }) (base : Nat) (e : TypeId) (i : TypeInfo) (z : Value) (size bytes : Nat) (ht : Try.prog.underlying t = some (.slice e)) (hi : Try.prog.info? e = some i) (hz : i.zero = some z)
    (hsize : i.size = size) (hby : i.bytes = bytes) (hzs : z.cells.size = size) (hsz : 0 < size)
    (v : Value) (n : Nat) (xs : List Value) (hs : a.eval s = v) (hown : w.ownsRow base e size v n xs) (x : Value) (l : List α) (hx' : a.eval y = x) (hx : IsRows size enc w x l) (hl : ∀ y ∈ l, (enc y).length = size) (h1 : ∀ y ∈ l, ∀ u ∈ enc y, u.oneCell' = true)
    (h63 : n + l.length ≤ maxLen) (hbytes : (n + l.length) * bytes ≤ 140737488355328) (hbase : base ≤ w.heap.size)
    (h : ∀ v' w', w'.ownsRow base e size v' (n + l.length) (xs ++ l.flatMap enc) → w.grownBy w' v.ownBlock → (v'.ownBlock = v.ownBlock ∨ v'.ownBlock = some w.heap.size) → K (a.put o.dst v') w') : if Region.wanted o (yielded ops a.tmps) = true then Oper.wp Try.prog o a w K Q else E := by
  rw [if_pos hw]
  exact wp_append_rows enc s y t ho base e i z size bytes ht hi hz hsize hby hzs hsz v n xs hs hown x l hx' hx hl h1 h63 hbytes hbase h
theorem own_keep {w w' : World} {base : Nat} {e : TypeId} {size n : Nat} {v : Value} {xs : List Value} (h : w.ownsRow base e size v n xs) (hb : Below w.heap.size w w') : w'.ownsRow base e size v n xs :=
  h.kept (row := none) ⟨hb.os, hb.tape, hb.output, hb.size, fun i hi _ => hb.block i hi⟩ (by cases hv : v.ownBlock <;> simp)
theorem own_succ {W : World} {base : Nat} {e : TypeId} {size : Nat} {v : Value} {k : Nat} {xs : List Value} (h : W.ownsRow base e size v (k + 1) xs) : ∃ g cap, v = .slice (some ⟨g, 0, none⟩) (k + 1) cap ∧ base ≤ g := by
  rcases h.2 with ⟨_, h0⟩ | ⟨g, cap, _, rfl, hg, _⟩
  · omega
  · exact ⟨g, cap, rfl, hg⟩
/-- Where a slice's own row lies behind an append. -/
def Moved (w : World) (v v' : Value) : Prop := v'.ownBlock = v.ownBlock ∨ v'.ownBlock = some w.heap.size
end Go.Proofs.Ytcembocnkndlhaa
/- The walks of failure, Clone, Write, Restart, New. -/
namespace Go.Proofs.Ytcembocnkndlhaa
open Go.RowKit
theorem formed_eq {v : Value} {d : Dk} {w : World} (h : IsDisk w v d) (b : Bool) (hb : formed d = b) :
    Calls Try.prog 65 #[v] w fun e w' => e = .returned (.bool b) ∧ Below w.heap.size w w' := by
  subst hb; exact formed_any v d w h
set_option maxHeartbeats 1000000 in
theorem failure_any (v : Value) (d : Dk) (k : Int) (w : World) (h : IsDisk w v d) :
    Calls Try.prog 56 #[v, .int .i64 k] w fun e w' => e = .returned (.int .i64 (failure d k)) ∧ Below w.heap.size w w' := by
  have h0 := h
  obtain ⟨pa, pc, wa, wc, rfl, -, -, m1, m2⟩ := h.shape
  obtain ⟨C, hC⟩ : ∃ C, C = Obj.cells #[.slice pa d.pages.length pc, .slice wa d.writes.length wc, .bool d.down] 25 := ⟨_, rfl⟩
  have b0 := below_new w C
  have x2 := fun w' (hb : Below (w.alloc C).heap.size (w.alloc C) w') => boxed (cs := #[.slice pa d.pages.length pc, .slice wa d.writes.length wc, .bool d.down]) (t := 25) (w := w) (w' := w') (j := 2) rfl (by rw [← hC]; exact hb)
  cases hf : formed d
  · have H := Lib.hid (show failure d k = 1 by unfold failure; rw [hf]; rfl)
    have HF := Lib.hid hf
    clear hf x2
    go_enter Try.func56, Try.ntmps56
    go_wp2_with fail
    rw [← hC]
    refine (formed_eq (h0.keep b0) _ HF.out).mono ?_
    rintro e w3 ⟨rfl, b3⟩
    go_wp2
    go_ret
    exact ⟨ret_int H.out.symm, below_trans b0 b3⟩
  · have HF := Lib.hid hf
    by_cases h1 : k < 0
    · have H := Lib.hid (show failure d k = 1 by unfold failure; rw [hf]; simp [h1])
      have hd : decide (k < 0) = true := decide_eq_true h1
      clear hf x2
      go_enter Try.func56, Try.ntmps56
      go_wp2_with fail
      rw [← hC]
      refine (formed_eq (h0.keep b0) _ HF.out).mono ?_
      rintro e w3 ⟨rfl, b3⟩
      go_wp2
      go_ret
      exact ⟨ret_int H.out.symm, below_trans b0 b3⟩
    · have hd : decide (k < 0) = false := decide_eq_false h1
      by_cases h2 : k ≥ 400
      · have H := Lib.hid (show failure d k = 1 by unfold failure; rw [hf]; simp [h2])
        have hd2 : decide (400 ≤ k) = true := decide_eq_true h2
        clear hf x2
        go_enter Try.func56, Try.ntmps56
        go_wp2_with fail
        rw [← hC]
        refine (formed_eq (h0.keep b0) _ HF.out).mono ?_
        rintro e w3 ⟨rfl, b3⟩
        go_wp2
        go_ret
        exact ⟨ret_int H.out.symm, below_trans b0 b3⟩
      · have hd2 : decide (400 ≤ k) = false := decide_eq_false h2
        have H := Lib.hid (show failure d k = if d.down = true then 350 else 0 by unfold failure; rw [hf, if_neg (by simp [h1]; omega)])
        clear hf
        go_enter Try.func56, Try.ntmps56
        go_wp2_with fail
        rw [← hC]
        refine (formed_eq (h0.keep b0) _ HF.out).mono ?_
        rintro e w3 ⟨rfl, b3⟩
        have y2 := x2 _ b3
        clear x2
        obtain ⟨ps, ws, dn⟩ := d
        cases dn
        · go_wp2
          go_ret
          exact ⟨ret_int H.out.symm, below_trans b0 b3⟩
        · go_wp2
          go_ret
          exact ⟨ret_int H.out.symm, below_trans b0 b3⟩
theorem info49 : (Try.prog.info? 49).map (fun i => (i.zero, i.size, i.bytes)) = some (some (.agg #[.int .i64 0, .slice none 0 0]), 2, 32) := by kernel_rfl
/-- Writes that the call has gathered. -/
def OwnWrites (w : World) (base : Nat) (v : Value) (L : List Wt) : Prop :=
  ∃ ps : List (Int × Value), w.ownsRow base 49 2 v L.length (ps.flatMap encW) ∧ ps.length = L.length ∧ ∀ (i : Nat) (p : Int × Value) (x : Wt), ps[i]? = some p → L[i]? = some x → p.1 = x.at_ ∧ IsBytes w p.2 x.data
theorem OwnWrites.keep {w w' : World} {base : Nat} {v : Value} {L : List Wt} (h : OwnWrites w base v L) (hb : Below w.heap.size w w') : OwnWrites w' base v L := by
  obtain ⟨ps, h1, h2, h3⟩ := h
  exact ⟨ps, own_keep h1 hb, h2, fun i p x hp hx => ⟨(h3 i p x hp hx).1, (h3 i p x hp hx).2.keep hb⟩⟩
theorem OwnWrites.is {w : World} {base : Nat} {v : Value} {L : List Wt} (h : OwnWrites w base v L) (hm : L.length ≤ 9223372036854775807) : IsWrites w v L := by
  obtain ⟨ps, h1, h2, h3⟩ := h
  rw [← h2] at h1 hm
  exact ⟨ps, IsRows.of_owns h1 (fun _ _ => rfl) hm, h2, h3⟩
theorem IsBytes.one {w : World} {v : Value} {l : List UInt8} (h : IsBytes w v l) : v.oneCell' = true := by
  obtain ⟨a, c, rfl, _⟩ := h; rfl
theorem writes_one {w : World} {ps : List (Int × Value)} {L : List Wt} (h2 : ps.length = L.length) (h3 : ∀ (i : Nat) (p : Int × Value) (x : Wt), ps[i]? = some p → L[i]? = some x → p.1 = x.at_ ∧ IsBytes w p.2 x.data) : ∀ y ∈ ps, ∀ u ∈ encW y, u.oneCell' = true := by
  intro y hy u hu
  obtain ⟨i, hi, rfl⟩ := List.getElem_of_mem hy
  have := (h3 i ps[i] (L[i]'(by omega)) (List.getElem?_eq_getElem hi) (List.getElem?_eq_getElem (by omega))).2.one
  simp [encW] at hu
  rcases hu with rfl | rfl
  · rfl
  · exact this
theorem ownBlock_ne {w : World} {base : Nat} {e : TypeId} {size n : Nat} {v : Value} {xs : List Value} (h : w.ownsRow base e size v n xs) {g : Nat} (hg : g < base) : v.ownBlock ≠ some g := fun e => by have := own_from h g e; omega
/-- A store into a block below what is owned. -/
theorem own_store {w : World} {base : Nat} {e : TypeId} {size n : Nat} {v : Value} {xs : List Value} (h : w.ownsRow base e size v n xs) {p : Addr} (hg : p.block < base) (u : Value) : (w.setCell p u).ownsRow base e size v n xs := ownsRow_setCell_below h hg u
theorem OwnPage.store {w : World} {base : Nat} {v : Value} {l : List UInt8} (h : OwnPage w base v l) {p : Addr} (hg : p.block < base) (u : Value) : OwnPage (w.setCell p u) base v l := by
  obtain ⟨g, e, h1, h2, h3⟩ := h
  exact ⟨g, e, h1, (Below.heap_setCell _ _ _ _ (by omega)).trans h2, h3⟩
set_option maxHeartbeats 1000000 in
set_option maxRecDepth 100000 in
theorem clone_any (v : Value) (ps : List (Int × Value)) (w : World) (h : IsRows 2 encW w v ps) (h1 : ∀ y ∈ ps, ∀ u ∈ encW y, u.oneCell' = true) (hl : ps.length ≤ 1000000000) :
    Calls Try.prog 57 #[v] w fun e w' => ∃ v', e = .returned v' ∧ w'.ownsRow w.heap.size 49 2 v' ps.length (ps.flatMap encW) ∧ Below w.heap.size w w' := by
  obtain ⟨i0, hi, hz0, hz1, hz2⟩ := info_parts info49
  have hr0 := h
  obtain ⟨a, c, rfl, h, hm⟩ := h
  have hq := fun (w : World) (n : Nat) => Lib.run_eql_slice_nil (P := Try.prog) w 23 49 a n c 0 0 Try.underlying23
  cases a with
  | none =>
    have hnil : ps = [] := by
      rcases h with h | ⟨b, off, ha, _⟩
      · exact h
      · cases ha
    subst hnil
    go_enter Try.func57, Try.ntmps57
    go_wp2
    go_ret
    exact ⟨_, rfl, World.ownsRow_nil _ _ _ _, Below.refl _ _⟩
  | some ad =>
    have h0 : (w.alloc (.cells #[] 49)).ownsRow w.heap.size 49 2 (.slice (some ⟨w.heap.size, 0, none⟩) 0 0) 0 [] := World.ownsRow_lit w #[] 0 (Nat.le_refl _) (by decide) rfl
    have b0 := below_new w (.cells #[] 49)
    have hx := hr0.keep (keeps_below b0)
    go_enter Try.func57, Try.ntmps57
    go_wp2_with (at_builtin; refine wpList_append_rows rfl encW _ _ 23 rfl w.heap.size 49 i0 (.agg #[.int .i64 0, .slice none 0 0]) 2 32 Try.underlying23 hi hz0 hz1 hz2 rfl (by decide) _ _ _ rfl h0 _ ps rfl hx (fun _ _ => rfl) h1 (by unfold maxLen; omega) (by omega) (by simp) ?_; intro v' w1 hown' hgrow _)
    go_ret
    refine ⟨v', rfl, ?_, ?_⟩
    · simpa using hown'
    · exact b0.grown hgrow (by simp) (own_from h0)
end Go.Proofs.Ytcembocnkndlhaa
/- The walks of Write, Restart, New. -/
namespace Go.Proofs.Ytcembocnkndlhaa
open Go.RowKit
theorem failure_eq {v : Value} {d : Dk} {k : Int} {w : World} (h : IsDisk w v d) (r : Int) (hr : failure d k = r) :
    Calls Try.prog 56 #[v, .int .i64 k] w fun e w' => e = .returned (.int .i64 r) ∧ Below w.heap.size w w' := by
  subst hr; exact failure_any v d k w h
theorem cells_two_new (w : World) (x y : Value) (t : TypeId) : ∀ j u, [x, y][j]? = some u → (w.alloc (.cells #[x, y] t)).cell? ((⟨w.heap.size, 0, none⟩ : Addr).add j) = some u := by
  intro j u hj
  have e : (w.alloc (.cells #[x, y] t)).heap[w.heap.size]? = some (.cells #[x, y] t) := heap_alloc_new w _
  match j, hj with
  | 0, hj => simp at hj; subst hj; exact cell_of_row _ w.heap.size 0 #[x, y] t (0, 0) e
  | 1, hj => simp at hj; subst hj; exact cell_of_row _ w.heap.size 1 #[x, y] t (0, 0) e
theorem below6 {w3 w4 w5 w6 : World} {v4 : Value} {o : Obj} {n : Nat} {e : TypeId} {size : Nat} {xs : List Value} (b4 : Below w3.heap.size w3 w4) (b5 : Below w4.heap.size w4 w5) (h : w5.ownsRow w3.heap.size e size v4 n xs) (hg : (w5.alloc o).grownBy w6 v4.ownBlock) : Below w3.heap.size w3 w6 := by
  have hs := (below_trans b4 b5).size
  refine Below.grown ((below_trans b4 b5).alloc hs o) hg (by simp; omega) (own_from h)
theorem writes_snoc {w wF : World} {base : Nat} {v u : Value} {ps : List (Int × Value)} {L : List Wt} {k : Int} {data : List UInt8} (h : wF.ownsRow base 49 2 v (ps.length + 1) (ps.flatMap encW ++ [.int .i64 k, u])) (h2 : ps.length = L.length)
    (h3 : ∀ (i : Nat) (p : Int × Value) (x : Wt), ps[i]? = some p → L[i]? = some x → p.1 = x.at_ ∧ IsBytes w p.2 x.data) (hb : Below w.heap.size w wF) (hu : IsBytes wF u data) (hm : ps.length + 1 ≤ 9223372036854775807) : IsWrites wF v (L ++ [⟨k, data⟩]) := by
  have e : ps.flatMap encW ++ [.int .i64 k, u] = (ps ++ [(k, u)]).flatMap encW := by rw [List.flatMap_append]; rfl
  rw [e] at h
  have hl : ps.length + 1 = (ps ++ [(k, u)]).length := by simp
  rw [hl] at h hm
  refine ⟨ps ++ [(k, u)], IsRows.of_owns h (fun _ _ => rfl) hm, by simp [h2], fun i p x hp hx => ?_⟩
  rcases Nat.lt_or_ge i ps.length with hi | hi
  · rw [List.getElem?_append_left hi] at hp
    rw [List.getElem?_append_left (by omega)] at hx
    exact ⟨(h3 i p x hp hx).1, (h3 i p x hp hx).2.keep hb⟩
  · rw [List.getElem?_append_right hi] at hp
    rw [List.getElem?_append_right (by omega)] at hx
    have h0 : i - ps.length = 0 := by
      have := (List.getElem?_eq_some_iff.1 hp).1
      simp at this; omega
    rw [← h2, h0] at hx
    rw [h0] at hp
    obtain rfl : (k, u) = p := by simpa using hp
    obtain rfl : (⟨k, data⟩ : Wt) = x := by simpa using hx
    exact ⟨rfl, hu⟩
/-- What Write, Sync and their like hand back. -/
def DiskErr (r : Dk × Int) (w : World) (e : Ending) (w' : World) : Prop := ∃ v, e = .returned (.tuple #[v, .int .i64 r.2]) ∧ IsDisk w' v r.1 ∧ Below w.heap.size w w'
set_option maxHeartbeats 2000000 in
set_option maxRecDepth 100000 in
theorem Write_any (v : Value) (d : Dk) (k : Int) (bv : Value) (l : List UInt8) (w : World) (h : IsDisk w v d) (hb : IsBytes w bv l) (hl : d.writes.length ≤ 100000000) :
    Calls Try.prog 19 #[v, .int .i64 k, bv] w (DiskErr (writeD d k l) w) := by
  obtain ⟨i0, hi, hz0, hz1, hz2⟩ := info_parts info49
  have h0 := h
  have hb0 := hb
  obtain ⟨pa, pc, wa, wc, rfl, hp, hw, m1, m2⟩ := h.shape
  obtain ⟨ba, bc, rfl, -, mb⟩ := hb
  obtain ⟨C, hC⟩ : ∃ C, C = Obj.cells #[.slice pa d.pages.length pc, .slice wa d.writes.length wc, .bool d.down] 25 := ⟨_, rfl⟩
  obtain ⟨Z, hZ⟩ : ∃ Z, Z = Obj.cells #[.slice none 0 0, .slice none 0 0, .bool false] 25 := ⟨_, rfl⟩
  obtain ⟨wb, hwb⟩ : ∃ x : World, x = (w.alloc C).alloc Z := ⟨_, rfl⟩
  have b1 := below_new w C
  have b2 : Below (w.alloc C).heap.size (w.alloc C) wb := by subst hwb; exact below_new _ _
  have b0 := below_trans b1 b2
  by_cases h64 : 64 < l.length
  · have H := Lib.hid (show writeD d k l = (noDisk, 1) by unfold writeD; rw [if_pos (by omega)])
    go_enter Try.func19, Try.ntmps19
    go_wp2
    refine bodyPost_ret (v := .tuple #[zeroV, .int .i64 1]) (by simp [results, Try.results19, go_sem, zeroV]) rfl ?_
    rw [← hC, ← hZ, ← hwb]
    refine ⟨zeroV, ?_, ?_, b0⟩
    · rw [H.out]
    · rw [H.out]; exact IsDisk.zero _
  · have h64' : l.length ≤ 64 := by omega
    by_cases hf : failure d k = 0
    · have H := Lib.hid (show writeD d k l = (⟨d.pages, d.writes ++ [⟨k, full l⟩], d.down⟩, 0) by unfold writeD; rw [if_neg h64, if_neg (by simp [hf])])
      have HF := Lib.hid hf
      clear hf
      go_enter Try.func19, Try.ntmps19
      go_wp2_with fail
      rw [← hC, ← hZ, ← hwb]
      refine (failure_eq (h0.keep b0) _ HF.out).mono ?_
      rintro e w3 ⟨rfl, b3⟩
      have g0 : wb.heap[w.heap.size]? = some (.cells #[.slice pa d.pages.length pc, .slice wa d.writes.length wc, .bool d.down] 25 (0, 0)) := by
        subst hC; exact box_at b2
      have g1 : wb.heap[w.heap.size + 1]? = some (.cells #[.slice none 0 0, .slice none 0 0, .bool false] 25 (0, 0)) := by
        subst hwb hZ
        have := heap_alloc_new (w.alloc C) (.cells #[.slice none 0 0, .slice none 0 0, .bool false] 25)
        simpa using this
      have k0 := block_keep g0 b3
      obtain ⟨y0, y1, y2, -, -, -⟩ := Box3.of k0
      obtain ⟨ps, hr, hq2, hq3⟩ := hw
      have hone := writes_one hq2 hq3
      have b03 := below_trans b0 b3
      go_wp2_with fail
      refine (clone_any _ ps _ (hr.keep (keeps_below b03)) hone (by omega)).mono ?_
      rintro e w4 ⟨v4, rfl, h4, b4⟩
      go_wp2_with fail
      refine (full_any _ l _ (hb0.keep (below_trans b03 b4))).mono ?_
      rintro e w5 ⟨v5, rfl, h5, b5⟩
      obtain ⟨q5, rfl, hq5, hg5, hl5⟩ := h5
      have h45 := own_keep h4 b5
      have hE := Lib.hid hq2
      have hps : ps.length ≤ 100000000 := by omega
      have hs5 := b5.size
      have hs4 := b4.size
      have hs3 := b3.size
      have hsb : wb.heap.size = w.heap.size + 1 + 1 := by subst hwb; simp
      have hgl : q5 < w5.heap.size := block_lt hg5
      have hnew : ∀ j u, ([Value.int .i64 k, .slice (some ⟨q5, 0, none⟩) 64 64] : List Value)[j]? = some u → (w5.alloc (.cells #[.int .i64 k, .slice (some ⟨q5, 0, none⟩) 64 64] 49)).cell? ((⟨w5.heap.size, 0, none⟩ : Addr).add j) = some u := cells_two_new _ _ _ _
      have HN := Lib.hid hnew
      have h1n : ∀ u ∈ ([Value.int .i64 k, .slice (some ⟨q5, 0, none⟩) 64 64] : List Value), u.oneCell' = true := by
        intro u hu; simp at hu; rcases hu with rfl | rfl <;> rfl
      have H1 := Lib.hid h1n
      clear hq2 hnew h1n y0 y1 y2
      go_wp2_with (at_builtin; refine wpList_append_own _ rfl _ _ 23 rfl w3.heap.size 49 i0 (.agg #[.int .i64 0, .slice none 0 0]) 2 32 Try.underlying23 hi hz0 hz1 hz2 rfl (by decide) _ _ _ rfl (h45.alloc _) ⟨w5.heap.size, 0, none⟩ 1 1 [.int .i64 k, .slice (some ⟨q5, 0, none⟩) 64 64] rfl rfl HN.out H1.out (by unfold maxLen; omega) (by omega) (by simp; omega) ?_; intro v6 w6 hown6 hgrow6 _; obtain ⟨g6, cap6, rfl, hg6⟩ := own_succ hown6; have b36 := below6 b4 b5 h45 hgrow6; obtain ⟨z0, z1, z2, zf0, zf1, zf2⟩ := Box3.of (block_keep g0 (below_trans b3 b36)); obtain ⟨u0, u1, u2, uf0, uf1, uf2⟩ := Box3.of (block_keep g1 (below_trans b3 b36)))
      refine bodyPost_ret (v := .tuple #[.agg #[.slice pa d.pages.length pc, .slice (some ⟨g6, 0, none⟩) (ps.length + 1) cap6, .bool d.down], .int .i64 0]) ?_ rfl ?_
      · simp [results, Try.results19, go_sem, u0, u1, u2]
      · have bF := (((below_trans b0 (below_trans b3 b36)).setCell (p := ⟨w.heap.size, 1, none⟩) (Nat.le_refl _) (.slice (some ⟨g6, 0, none⟩) (ps.length + 1) cap6)).setCell (p := ⟨w.heap.size + 1, 0, none⟩) (by simp) (.slice pa d.pages.length pc) |>.setCell (p := ⟨w.heap.size + 1, 1, none⟩) (by simp) (.slice (some ⟨g6, 0, none⟩) (ps.length + 1) cap6)).setCell (p := ⟨w.heap.size + 1, 2, none⟩) (by simp) (.bool d.down)
        have oF := own_store (own_store (own_store (own_store hown6 (p := ⟨w.heap.size, 1, none⟩) (by simp; omega) (.slice (some ⟨g6, 0, none⟩) (ps.length + 1) cap6)) (p := ⟨w.heap.size + 1, 0, none⟩) (by simp; omega) (.slice pa d.pages.length pc)) (p := ⟨w.heap.size + 1, 1, none⟩) (by simp; omega) (.slice (some ⟨g6, 0, none⟩) (ps.length + 1) cap6)) (p := ⟨w.heap.size + 1, 2, none⟩) (by simp; omega) (.bool d.down)
        have p5 : OwnPage w5 w4.heap.size (.slice (some ⟨q5, 0, none⟩) 64 64) (full l) := ⟨q5, rfl, hq5, hg5, hl5⟩
        have p6 : OwnPage w6 w4.heap.size (.slice (some ⟨q5, 0, none⟩) 64 64) (full l) := by
          refine ⟨q5, rfl, hq5, ?_, hl5⟩
          rw [hgrow6.block q5 (by simp; omega) (fun e => ?_)]
          · exact (Below.heap_alloc _ _ _ hgl).trans hg5
          · have := h4.lt q5 e.symm; omega
        have pF := OwnPage.store (OwnPage.store (OwnPage.store (OwnPage.store p6 (p := ⟨w.heap.size, 1, none⟩) (by simp; omega) (.slice (some ⟨g6, 0, none⟩) (ps.length + 1) cap6)) (p := ⟨w.heap.size + 1, 0, none⟩) (by simp; omega) (.slice pa d.pages.length pc)) (p := ⟨w.heap.size + 1, 1, none⟩) (by simp; omega) (.slice (some ⟨g6, 0, none⟩) (ps.length + 1) cap6)) (p := ⟨w.heap.size + 1, 2, none⟩) (by simp; omega) (.bool d.down)
        refine ⟨_, by rw [H.out], ?_, bF⟩
        rw [H.out]
        exact ⟨_, _, rfl, hp.keep bF, writes_snoc oF hE.out hq3 bF pF.bytes (by omega)⟩
    · have H := Lib.hid (show writeD d k l = (noDisk, failure d k) by unfold writeD; rw [if_neg h64, if_pos hf])
      have hne := ne_beq hf
      have hbq : (failure d k != 0) = true := by simpa using hf
      generalize hR : failure d k = R at *
      have HR := Lib.hid hR
      clear hR
      go_enter Try.func19, Try.ntmps19
      go_wp2_with fail
      rw [← hC, ← hZ, ← hwb]
      refine (failure_eq (h0.keep b0) _ HR.out).mono ?_
      rintro e w3 ⟨rfl, b3⟩
      have g1 : wb.heap[w.heap.size + 1]? = some (.cells #[.slice none 0 0, .slice none 0 0, .bool false] 25 (0, 0)) := by
        subst hwb hZ
        have := heap_alloc_new (w.alloc C) (.cells #[.slice none 0 0, .slice none 0 0, .bool false] 25)
        simpa using this
      obtain ⟨u0, u1, u2, uf0, uf1, uf2⟩ := Box3.of (block_keep g1 b3)
      go_wp2
      refine bodyPost_ret (v := .tuple #[zeroV, .int .i64 R]) (by simp [results, Try.results19, go_sem, zeroV, u0, u1, u2]) rfl ?_
      refine ⟨zeroV, by rw [H.out], by rw [H.out]; exact IsDisk.zero _, ?_⟩
      exact (((below_trans b0 b3).setCell (p := ⟨w.heap.size + 1, 0, none⟩) (by simp) _).setCell (p := ⟨w.heap.size + 1, 1, none⟩) (by simp) _).setCell (p := ⟨w.heap.size + 1, 2, none⟩) (by simp) _
end Go.Proofs.Ytcembocnkndlhaa
/- The walks of Restart and New, the given program's and the reference's New. -/
namespace Go.Proofs.Ytcembocnkndlhaa
open Go.RowKit
/-- What Crash, Restart hand back. -/
def DiskRet (d : Dk) (w : World) (e : Ending) (w' : World) : Prop := ∃ v, e = .returned v ∧ IsDisk w' v d ∧ Below w.heap.size w w'
theorem New_any (w : World) : Calls Try.prog 31 #[] w (DiskRet noDisk w) := by
  go_enter Try.func31, Try.ntmps31
  go_wp2
  refine bodyPost_ret (v := zeroV) (by simp [results, Try.results31, go_sem, zeroV]) rfl ?_
  exact ⟨zeroV, rfl, IsDisk.zero _, below_new _ _⟩
theorem rNew_any (w : World) : Calls Try.prog 32 #[] w (DiskRet noDisk w) := by
  go_enter Try.func32, Try.ntmps32
  go_wp2
  refine bodyPost_ret (v := zeroV) (by simp [results, Try.results32, go_sem, zeroV]) rfl ?_
  exact ⟨zeroV, rfl, IsDisk.zero _, below_new _ _⟩
set_option maxHeartbeats 1000000 in
theorem Restart_any (v : Value) (d : Dk) (w : World) (h : IsDisk w v d) : Calls Try.prog 29 #[v] w (DiskRet (restartD d) w) := by
  have h0 := h
  obtain ⟨pa, pc, wa, wc, rfl, hp, hw, m1, m2⟩ := h.shape
  obtain ⟨C, hC⟩ : ∃ C, C = Obj.cells #[.slice pa d.pages.length pc, .slice wa d.writes.length wc, .bool d.down] 25 := ⟨_, rfl⟩
  obtain ⟨Z, hZ⟩ : ∃ Z, Z = Obj.cells #[.slice none 0 0, .slice none 0 0, .bool false] 25 := ⟨_, rfl⟩
  obtain ⟨wb, hwb⟩ : ∃ x : World, x = (w.alloc C).alloc Z := ⟨_, rfl⟩
  have b1 := below_new w C
  have b2 : Below (w.alloc C).heap.size (w.alloc C) wb := by subst hwb; exact below_new _ _
  have b0 := below_trans b1 b2
  have g0 : wb.heap[w.heap.size]? = some (.cells #[.slice pa d.pages.length pc, .slice wa d.writes.length wc, .bool d.down] 25 (0, 0)) := by
    subst hC; exact box_at b2
  have g1 : wb.heap[w.heap.size + 1]? = some (.cells #[.slice none 0 0, .slice none 0 0, .bool false] 25 (0, 0)) := by
    subst hwb hZ
    have := heap_alloc_new (w.alloc C) (.cells #[.slice none 0 0, .slice none 0 0, .bool false] 25)
    simpa using this
  cases hf : formed d
  · have H := Lib.hid (show restartD d = noDisk by unfold restartD; rw [hf]; rfl)
    have HF := Lib.hid hf
    clear hf
    go_enter Try.func29, Try.ntmps29
    go_wp2_with fail
    rw [← hC, ← hZ, ← hwb]
    refine (formed_eq (h0.keep b0) _ HF.out).mono ?_
    rintro e w3 ⟨rfl, b3⟩
    obtain ⟨u0, u1, u2, uf0, uf1, uf2⟩ := Box3.of (block_keep g1 b3)
    go_wp2
    refine bodyPost_ret (v := zeroV) (by simp [results, Try.results29, go_sem, zeroV, u0, u1, u2]) rfl ?_
    refine ⟨zeroV, rfl, by rw [H.out]; exact IsDisk.zero _, ?_⟩
    exact (((below_trans b0 b3).setCell (p := ⟨w.heap.size + 1, 0, none⟩) (by simp) _).setCell (p := ⟨w.heap.size + 1, 1, none⟩) (by simp) _).setCell (p := ⟨w.heap.size + 1, 2, none⟩) (by simp) _
  · have H := Lib.hid (show restartD d = ⟨d.pages, d.writes, false⟩ by unfold restartD; rw [hf]; rfl)
    have HF := Lib.hid hf
    clear hf
    go_enter Try.func29, Try.ntmps29
    go_wp2_with fail
    rw [← hC, ← hZ, ← hwb]
    refine (formed_eq (h0.keep b0) _ HF.out).mono ?_
    rintro e w3 ⟨rfl, b3⟩
    obtain ⟨u0, u1, u2, uf0, uf1, uf2⟩ := Box3.of (block_keep g1 b3)
    obtain ⟨z0, z1, z2, zf0, zf1, zf2⟩ := Box3.of (block_keep g0 b3)
    go_wp2
    refine bodyPost_ret (v := .agg #[.slice pa d.pages.length pc, .slice wa d.writes.length wc, .bool false]) (by simp [results, Try.results29, go_sem, u0, u1, u2]) rfl ?_
    have bF := ((((below_trans b0 b3).setCell (p := ⟨w.heap.size, 2, none⟩) (by simp) (.bool false)).setCell (p := ⟨w.heap.size + 1, 0, none⟩) (by simp) (.slice pa d.pages.length pc)).setCell (p := ⟨w.heap.size + 1, 1, none⟩) (by simp) (.slice wa d.writes.length wc)).setCell (p := ⟨w.heap.size + 1, 2, none⟩) (by simp) (.bool false)
    refine ⟨_, rfl, ?_, bF⟩
    rw [H.out]
    exact ⟨_, _, rfl, hp.keep bF, hw.keep bF⟩
end Go.Proofs.Ytcembocnkndlhaa
/- Pages that a call owns: each in a block of its own; appending one, storing into one. -/
namespace Go.Proofs.Ytcembocnkndlhaa
open Go.RowKit
theorem info26 : (Try.prog.info? 26).map (fun i => (i.zero, i.size, i.bytes)) = some (some (.slice none 0 0), 1, 24) := by kernel_rfl
def pageV (g : Nat) : Value := .slice (some ⟨g, 0, none⟩) 64 64
def OwnPages (w : World) (base : Nat) (v : Value) (L : List (List UInt8)) : Prop :=
  ∃ gs : List Nat, w.ownsRow base 26 1 v L.length (gs.map pageV) ∧ gs.length = L.length ∧ gs.Nodup ∧ (∀ g ∈ gs, base ≤ g ∧ v.ownBlock ≠ some g) ∧ ∀ (i : Nat) (g : Nat) (l : List UInt8), gs[i]? = some g → L[i]? = some l → w.heap[g]? = some (.cells (bytesV l).toArray 5 (0, 0)) ∧ l.length = 64
theorem OwnPages.nil (w : World) (base : Nat) : OwnPages w base (.slice none 0 0) [] := ⟨[], World.ownsRow_nil _ _ _ _, rfl, List.nodup_nil, by simp, by simp⟩
theorem OwnPages.keep {w w' : World} {base : Nat} {v : Value} {L : List (List UInt8)} (h : OwnPages w base v L) (hb : Below w.heap.size w w') : OwnPages w' base v L := by
  obtain ⟨gs, h1, h2, h3, h4, h5⟩ := h
  exact ⟨gs, own_keep h1 hb, h2, h3, h4, fun i g l hg hl => ⟨block_keep (h5 i g l hg hl).1 hb, (h5 i g l hg hl).2⟩⟩
theorem OwnPages.store {w : World} {base : Nat} {v : Value} {L : List (List UInt8)} (h : OwnPages w base v L) {p : Addr} (hp : p.block < base) (u : Value) : OwnPages (w.setCell p u) base v L := by
  obtain ⟨gs, h1, h2, h3, h4, h5⟩ := h
  refine ⟨gs, own_store h1 hp u, h2, h3, h4, fun i g l hg hl => ⟨?_, (h5 i g l hg hl).2⟩⟩
  have := (h4 g (List.mem_of_getElem? hg)).1
  exact (Below.heap_setCell _ _ _ _ (by omega)).trans (h5 i g l hg hl).1
theorem OwnPages.len {w : World} {base : Nat} {v : Value} {L : List (List UInt8)} (h : OwnPages w base v L) : ∃ a c, v = .slice a L.length c := by
  obtain ⟨gs, ⟨_, h1⟩, _⟩ := h
  rcases h1 with ⟨rfl, h0⟩ | ⟨g, cap, cur, rfl, _⟩
  · exact ⟨none, 0, by rw [h0]⟩
  · exact ⟨_, _, rfl⟩
theorem flatV (vs : List Value) : vs.flatMap encV = vs := by
  induction vs with
  | nil => rfl
  | cons x r ih => rw [List.flatMap_cons, ih]; rfl
theorem OwnPages.is {w : World} {base : Nat} {v : Value} {L : List (List UInt8)} (h : OwnPages w base v L) (hm : L.length ≤ 9223372036854775807) : IsPages w v L := by
  obtain ⟨gs, h1, h2, h3, h4, h5⟩ := h
  refine ⟨gs.map pageV, IsRows.of_owns (base := base) (e := 26) (by rw [flatV, List.length_map, h2]; exact h1) (fun _ _ => rfl) (by rw [List.length_map, h2]; exact hm), by rw [List.length_map, h2], fun i u l hu hl => ?_⟩
  rw [List.getElem?_map] at hu
  obtain ⟨g, hg, rfl⟩ := Option.map_eq_some_iff.1 hu
  obtain ⟨h6, h7⟩ := h5 i g l hg hl
  exact OwnPage.bytes (base := 0) ⟨g, rfl, Nat.zero_le _, h6, h7⟩
/-- A page more: what append does. -/
theorem OwnPages.push {wr w w' : World} {base : Nat} {v : Value} {L : List (List UInt8)} {q g cap : Nat} {l : List UInt8} (hO : OwnPages wr base v L) (hb : Below wr.heap.size wr w) (hu : OwnPage w wr.heap.size (pageV q) l) (hbase : base ≤ wr.heap.size)
    (h1 : ∀ gs : List Nat, w.ownsRow base 26 1 v L.length (gs.map pageV) → w'.ownsRow base 26 1 (.slice (some ⟨g, 0, none⟩) (L.length + 1) cap) (L.length + 1) (gs.map pageV ++ [pageV q])) (hg : w.grownBy w' v.ownBlock) (hat : v.ownBlock = some g ∨ g = w.heap.size) :
    OwnPages w' base (.slice (some ⟨g, 0, none⟩) (L.length + 1) cap) (L ++ [l]) ∧ Below base wr w' ∧ wr.grownBy w' v.ownBlock ∧ (v.ownBlock = some g ∨ wr.heap.size ≤ g) := by
  obtain ⟨gs, k1, k2, k3, k4, k5⟩ := hO
  obtain ⟨q', e, q1, q2, q3⟩ := hu
  have hqq : q' = q := by unfold pageV at e; injection e with e1 e2 e3; injection e1 with e1; injection e1 with e1; exact e1.symm
  subst hqq
  have hown := own_keep k1 hb
  have hlt : ∀ x ∈ gs, x < wr.heap.size := by
    intro x hx
    obtain ⟨i, hi, rfl⟩ := List.getElem_of_mem hx
    exact block_lt (k5 i gs[i] (L[i]'(by omega)) (List.getElem?_eq_getElem hi) (List.getElem?_eq_getElem (by omega))).1
  have hql : q' < w.heap.size := block_lt q2
  have hvb : ∀ k, v.ownBlock = some k → base ≤ k ∧ k < wr.heap.size := k1.lt
  have hgl : ∀ x ∈ gs, x ≠ g := by
    intro x hx e
    subst e
    rcases hat with h | h
    · exact (k4 x hx).2 h
    · have := hlt x hx; have := hb.size; omega
  have hqg : q' ≠ g := by
    intro e
    subst e
    rcases hat with h | h
    · have := (hvb q' h).2; omega
    · omega
  refine ⟨⟨gs ++ [q'], ?_, by simp [k2], ?_, ?_, ?_⟩, ?_, ?_, ?_⟩
  · rw [List.length_append, List.map_append]; exact h1 gs hown
  · rw [List.nodup_append]
    refine ⟨k3, by simp, fun x hx y hy e => ?_⟩
    obtain rfl : y = q' := by simpa using hy
    have := hlt x hx; omega
  · intro x hx
    rcases List.mem_append.1 hx with hx | hx
    · exact ⟨(k4 x hx).1, fun e => hgl x hx (by simpa [Value.ownBlock] using e.symm)⟩
    · obtain rfl : x = q' := by simpa using hx
      exact ⟨by omega, fun e => hqg (by simpa [Value.ownBlock] using e.symm)⟩
  · intro i x y hx hy
    rcases Nat.lt_or_ge i gs.length with hi | hi
    · rw [List.getElem?_append_left hi] at hx
      rw [List.getElem?_append_left (by omega)] at hy
      obtain ⟨h6, h7⟩ := k5 i x y hx hy
      have hm := List.mem_of_getElem? hx
      refine ⟨?_, h7⟩
      rw [hg.block x (by have := hlt x hm; have := hb.size; omega) fun e => (k4 x hm).2 e.symm]
      exact block_keep h6 hb
    · rw [List.getElem?_append_right hi] at hx
      rw [List.getElem?_append_right (by omega)] at hy
      have h0 : i - gs.length = 0 := by
        have := (List.getElem?_eq_some_iff.1 hx).1
        simp at this; omega
      rw [← k2, h0] at hy
      rw [h0] at hx
      obtain rfl : q' = x := by simpa using hx
      obtain rfl : l = y := by simpa using hy
      refine ⟨?_, q3⟩
      rw [hg.block q' hql fun e => by have := (hvb q' e.symm).2; omega]
      exact q2
  · refine (hb.mono hbase).trans ⟨hg.os, hg.tape, hg.output, hg.size, fun k hk => hg.block k (by have := hb.size; omega) fun e => ?_⟩
    have := (hvb k e.symm).1; omega
  · exact ⟨hg.os.trans hb.os, hg.tape.trans hb.tape, hg.output.trans hb.output, Nat.le_trans hb.size hg.size, fun k hk hne => (hg.block k (Nat.lt_of_lt_of_le hk hb.size) hne).trans (hb.block k hk)⟩
  · rcases hat with h | h
    · exact .inl h
    · exact .inr (by rw [h]; exact hb.size)
theorem run_push {wr w : World} {base : Nat} {v : Value} {L : List (List UInt8)} {q g1 : Nat} {l : List UInt8} {t ty bt : TypeId} (ht : Try.prog.underlying t = some (.slice 26)) (hO : OwnPages wr base v L) (hb : Below wr.heap.size wr w) (hu : OwnPage w wr.heap.size (pageV q) l) (hbase : base ≤ wr.heap.size)
    (hblk : w.heap[g1]? = some (.cells #[pageV q] bt (0, 0))) (hL : L.length ≤ 1000) :
    ∃ g cap w', (Builtin.append_ #[t, t] ty #[v, .slice (some ⟨g1, 0, none⟩) 1 1]).run Try.prog w = .ok (.slice (some ⟨g, 0, none⟩) (L.length + 1) cap) w' ∧ OwnPages w' base (.slice (some ⟨g, 0, none⟩) (L.length + 1) cap) (L ++ [l]) ∧ Below base wr w' ∧ wr.grownBy w' v.ownBlock ∧ (v.ownBlock = some g ∨ wr.heap.size ≤ g) := by
  obtain ⟨i0, hi, hz0, hz1, hz2⟩ := info_parts info26
  obtain ⟨gs, k1, k2, k3, k4, k5⟩ := id hO
  have hown := own_keep k1 hb
  obtain ⟨g, cap, w', hrun, h2, h3, h4, h5⟩ := run_append_lies (P := Try.prog) w t ty base 26 i0 (.slice none 0 0) 1 24 ht hi hz0 hz1 hz2 rfl (by decide) v L.length (gs.map pageV) hown ⟨g1, 0, none⟩ 1 1 [pageV q] rfl
    (fun j u hj => by
      have hj0 : j = 0 := by have := (List.getElem?_eq_some_iff.1 hj).1; simp at this; exact this
      subst hj0
      obtain rfl : pageV q = u := by simpa using hj
      exact cell_at hblk rfl) (by intro u hu; obtain rfl := List.mem_singleton.1 hu; rfl) (by decide) (by unfold maxLen; omega) (by omega) (by have := hb.size; omega) _ rfl
  have := OwnPages.push hO hb hu hbase (g := g) (cap := cap) (w' := w') (fun gs' hown' => by
    have e : gs'.map pageV = gs.map pageV := by
      have h6 := hown'.2
      have h7 := hown.2
      rcases h6 with ⟨e6, n6⟩ | ⟨a6, c6, cur6, e6, _, b6, _, _, _, t6⟩
      · have : gs.map pageV = [] := List.eq_nil_of_length_eq_zero (by rw [hown.1, n6])
        rw [this]
        exact List.eq_nil_of_length_eq_zero (by rw [hown'.1, n6])
      · rcases h7 with ⟨e7, n7⟩ | ⟨a7, c7, cur7, e7, _, b7, _, _, _, t7⟩
        · rw [e6] at e7; cases e7
        · rw [e6] at e7
          simp only [Value.slice.injEq, Option.some.injEq, Addr.mk.injEq] at e7
          obtain ⟨⟨rfl, -, -⟩, -, -⟩ := e7
          have e9 := b6.symm.trans b7
          simp only [Option.some.injEq, Obj.cells.injEq] at e9
          obtain ⟨rfl, -, -⟩ := e9
          rw [← t6, ← t7]
    rw [e]; exact h2) h3 h4
  exact ⟨g, cap, w', hrun, this⟩
theorem wp_push {wr w : World} {o : Oper} {a : Act} {K : Act → World → Prop} {Q : Exit → Act → World → Prop} (s y : Operand) (t : TypeId) (ho : o.op = .call { callee := .builtin .append, args := #[s, y], argTypes := #[t, t] }) (ht : Try.prog.underlying t = some (.slice 26))
    {base : Nat} {v : Value} {L : List (List UInt8)} {q g1 : Nat} {l : List UInt8} {bt : TypeId} (hs : a.eval s = v) (hy : a.eval y = .slice (some ⟨g1, 0, none⟩) 1 1) (hO : OwnPages wr base v L) (hb : Below wr.heap.size wr w) (hu : OwnPage w wr.heap.size (pageV q) l) (hbase : base ≤ wr.heap.size)
    (hblk : w.heap[g1]? = some (.cells #[pageV q] bt (0, 0))) (hL : L.length ≤ 1000)
    (h : ∀ g cap w', OwnPages w' base (.slice (some ⟨g, 0, none⟩) (L.length + 1) cap) (L ++ [l]) → Below base wr w' → wr.grownBy w' v.ownBlock → (v.ownBlock = some g ∨ wr.heap.size ≤ g) → K (a.put o.dst (.slice (some ⟨g, 0, none⟩) (L.length + 1) cap)) w') : o.wp Try.prog a w K Q := by
  obtain ⟨g, cap, w', hr, h2, h3, h4, h5⟩ := run_push (ty := o.type) ht hO hb hu hbase hblk hL
  unfold Oper.wp execOp
  simp only [ho, resolve, invoke, builtin, Sem.run_bind, Sem.run_pure, Result.andThen_ok, List.map_toArray, List.map_cons, List.map_nil, hs, hy, hr]
  exact h g cap w' h2 h3 h4 h5
theorem wpList_push {wr w : World} {ops : Array Oper} {rest : List Oper} {o : Oper} {a : Act} {Q : Exit → Act → World → Prop} (hgd : o.guard = none) (s y : Operand) (t : TypeId) (ho : o.op = .call { callee := .builtin .append, args := #[s, y], argTypes := #[t, t] }) (ht : Try.prog.underlying t = some (.slice 26))
    {base : Nat} {v : Value} {L : List (List UInt8)} {q g1 : Nat} {l : List UInt8} {bt : TypeId} (hs : a.eval s = v) (hy : a.eval y = .slice (some ⟨g1, 0, none⟩) 1 1) (hO : OwnPages wr base v L) (hb : Below wr.heap.size wr w) (hu : OwnPage w wr.heap.size (pageV q) l) (hbase : base ≤ wr.heap.size)
    (hblk : w.heap[g1]? = some (.cells #[pageV q] bt (0, 0))) (hL : L.length ≤ 1000)
    (h : ∀ g cap w', OwnPages w' base (.slice (some ⟨g, 0, none⟩) (L.length + 1) cap) (L ++ [l]) → Below base wr w' → wr.grownBy w' v.ownBlock → (v.ownBlock = some g ∨ wr.heap.size ≤ g) → wpList Try.prog ops Q rest (a.put o.dst (.slice (some ⟨g, 0, none⟩) (L.length + 1) cap)) w') : wpList Try.prog ops Q (o :: rest) a w :=
  wpList_plain hgd fun _ hK => wp_push s y t ho ht hs hy hO hb hu hbase hblk hL fun g cap w' h2 h3 h4 h5 => hK _ _ (h g cap w' h2 h3 h4 h5)
theorem step_push {wr w : World} {ops : Array Oper} {o : Oper} {a : Act} {K : Act → World → Prop} {Q : Exit → Act → World → Prop} {E : Prop} (hgd : o.guard = none) (s y : Operand) (t : TypeId) (ho : o.op = .call { callee := .builtin .append, args := #[s, y], argTypes := #[t, t] }) (ht : Try.prog.underlying t = some (.slice 26))
    {base : Nat} {v : Value} {L : List (List UInt8)} {q g1 : Nat} {l : List UInt8} {bt : TypeId} (hs : a.eval s = v) (hy : a.eval y = .slice (some ⟨g1, 0, none⟩) 1 1) (hO : OwnPages wr base v L) (hb : Below wr.heap.size wr w) (hu : OwnPage w wr.heap.size (pageV q) l) (hbase : base ≤ wr.heap.size)
    (hblk : w.heap[g1]? = some (.cells #[pageV q] bt (0, 0))) (hL : L.length ≤ 1000)
    (h : ∀ g cap w', OwnPages w' base (.slice (some ⟨g, 0, none⟩) (L.length + 1) cap) (L ++ [l]) → Below base wr w' → wr.grownBy w' v.ownBlock → (v.ownBlock = some g ∨ wr.heap.size ≤ g) → K (a.put o.dst (.slice (some ⟨g, 0, none⟩) (L.length + 1) cap)) w') : if Region.wanted o (yielded ops a.tmps) = true then Oper.wp Try.prog o a w K Q else E := by
  have hw : Region.wanted o (yielded ops a.tmps) = true := by simp [Region.wanted, hgd]
  rw [if_pos hw]
  exact wp_push s y t ho ht hs hy hO hb hu hbase hblk hL h
theorem box1_set {w : World} {g : Nat} {u v : Value} {t : TypeId} (h : w.heap[g]? = some (.cells #[u] t (0, 0))) : (w.setCell ⟨g, 0, none⟩ v).heap[g]? = some (.cells #[v] t (0, 0)) := by
  simp [World.setCell, Array.getElem?_modify, h]
/-- One page of those that the call owns: where it lies, and what they are when it alone has turned. -/
theorem OwnPages.open_ {w : World} {base : Nat} {v : Value} {L : List (List UInt8)} (h : OwnPages w base v L) {k : Nat} {l : List UInt8} (hk : L[k]? = some l) :
    ∃ b c g, v = .slice (some ⟨b, 0, none⟩) L.length c ∧ base ≤ b ∧ w.cell? ⟨b, 0 + k, none⟩ = some (pageV g) ∧ base ≤ g ∧ b ≠ g ∧ w.heap[g]? = some (.cells (bytesV l).toArray 5 (0, 0)) ∧ l.length = 64 ∧
      ∀ (w' : World) (l' : List UInt8), l'.length = 64 → w'.heap[g]? = some (.cells (bytesV l').toArray 5 (0, 0)) → (∀ j, j ≠ g → w'.heap[j]? = w.heap[j]?) → OwnPages w' base v (L.set k l') := by
  obtain ⟨gs, h1, h2, h3, h4, h5⟩ := h
  have hkl : k < L.length := (List.getElem?_eq_some_iff.1 hk).1
  have hkg : k < gs.length := by omega
  obtain ⟨h6, h7⟩ := h5 k gs[k] l (List.getElem?_eq_getElem hkg) hk
  have h8 := h4 gs[k] (List.getElem_mem hkg)
  have h9 := h1.2
  rcases h9 with ⟨rfl, h0⟩ | ⟨b, cap, cur, rfl, hb, hbb, hn, hc, hs, ht⟩
  · omega
  · have hne : b ≠ gs[k] := fun e => h8.2 (by rw [e]; rfl)
    refine ⟨b, cap, gs[k], rfl, hb, ?_, h8.1, hne, h6, h7, fun w' l' hl' hg' ho => ⟨gs, ?_, by rw [List.length_set, h2], h3, h4, fun i x y hx hy => ?_⟩⟩
    · have := h1.cells (g := b) rfl k (pageV gs[k]) (by rw [List.getElem?_map, List.getElem?_eq_getElem hkg]; rfl)
      have hadd : (⟨b, 0, none⟩ : Addr).add k = ⟨b, 0 + k, none⟩ := by
        unfold Addr.add; split
        · rename_i h0; subst h0; simp
        · simp
      rwa [hadd] at this
    · rw [List.length_set]
      refine ⟨h1.1, .inr ⟨b, cap, cur, rfl, hb, ?_, hn, hc, hs, ht⟩⟩
      rw [ho b hne]; exact hbb
    · rw [List.getElem?_set] at hy
      by_cases e : k = i
      · subst e
        rw [if_pos rfl, if_pos hkl] at hy
        obtain rfl : l' = y := by simpa using hy
        rw [List.getElem?_eq_getElem hkg] at hx
        obtain rfl : gs[k] = x := by simpa using hx
        exact ⟨hg', hl'⟩
      · rw [if_neg e] at hy
        have hxg : x ≠ gs[k] := by
          intro e'
          have hi : i < gs.length := (List.getElem?_eq_some_iff.1 hx).1
          have hxi : gs[i] = x := by rw [List.getElem?_eq_getElem hi] at hx; simpa using hx
          exact e ((List.getElem_inj h3).1 (e'.symm.trans hxi.symm))
        rw [ho x hxg]
        exact h5 i x y hx hy
theorem over_splice {l data : List UInt8} {n : Nat} (hn : n ≤ data.length) : bytesV (over data l n) = (bytesV l).take 0 ++ bytesV (data.take n) ++ (bytesV l).drop (0 + (bytesV (data.take n)).length) := by
  unfold over
  rw [length_bytesV, List.length_take, Nat.min_eq_left hn]
  unfold bytesV
  rw [List.map_append, List.map_drop, List.take_zero, List.nil_append, Nat.zero_add]
/-- The copy of n bytes into a page that the call owns. -/
theorem run_copy_page {w : World} {base : Nat} {v : Value} {L : List (List UInt8)} (h : OwnPages w base v L) {k : Nat} {l : List UInt8} (hk : L[k]? = some l) {g : Nat} {b c : Nat} (hv : v = .slice (some ⟨b, 0, none⟩) L.length c) (hg : w.cell? ⟨b, 0 + k, none⟩ = some (pageV g))
    {sa : Option Addr} {n sc : Nat} {data : List UInt8} (hs : RowsAt 1 encB w sa (data.take n)) (hn : n ≤ data.length) (h64 : n ≤ 64) (ty : TypeId) :
    ∃ w', (Builtin.copy_ #[26, 26] ty #[pageV g, .slice sa n sc]).run Try.prog w = .ok (goInt n) w' ∧ OwnPages w' base v (L.set k (over data l n)) ∧ Below base w w' := by
  obtain ⟨b', c', g', e1, e2, e3, e4, e5, e6, e7, e8⟩ := h.open_ hk
  have : g' = g ∧ b' = b := by
    rw [hv] at e1
    simp only [Value.slice.injEq, Option.some.injEq, Addr.mk.injEq, and_true, true_and] at e1
    obtain ⟨rfl, -⟩ := e1
    rw [hg] at e3
    simp [pageV] at e3
    exact ⟨e3.symm, rfl⟩
  obtain ⟨rfl, rfl⟩ := this
  have hsz : (Try.prog.info? 5).map (·.size) = some 1 := by kernel_rfl
  have hlo : (over data l n).length = 64 := by unfold over; rw [List.length_append, List.length_take, List.length_drop, Nat.min_eq_left hn, e7]; omega
  rcases hs with hs | ⟨sb, so, rfl, hc⟩
  · have hn0 : n = 0 := by
      have := congrArg List.length hs
      rw [List.length_take, Nat.min_eq_left hn] at this
      exact this
    subst hn0
    refine ⟨w, run_copy_none (P := Try.prog) w 26 26 ty 5 _ sa 64 64 0 sc Try.underlying26 hsz (by rfl), ?_, Below.refl _ _⟩
    have : L.set k l = L := by
      apply List.ext_getElem?
      intro i
      rw [List.getElem?_set]
      split
      · rename_i e; subst e
        split
        · exact hk.symm
        · rename_i e; exact absurd (List.getElem?_eq_some_iff.1 hk).1 e
      · rfl
    rw [over_none, this]
    exact h
  · have hcs : ∀ j u, (bytesV (data.take n))[j]? = some u → w.cell? ((⟨sb, so, none⟩ : Addr).add j) = some u := by
      intro j u hj
      have := bytes_take hc (data.take n).length j u (by rw [List.take_length]; exact hj)
      exact this
    have hlen : (bytesV (data.take n)).length = n := by rw [length_bytesV, List.length_take]; omega
    have hrun := run_copy_row (P := Try.prog) w 26 26 ty 5 g' 0 64 64 ⟨sb, so, none⟩ n sc (bytesV l).toArray 5 (bytesV (data.take n)) Try.underlying26 hsz e6 (by rw [hlen]; exact (Nat.min_eq_left h64).symm) hcs (by rw [hlen]; simp [length_bytesV]; omega) (bytesV_one _)
    rw [hlen] at hrun
    refine ⟨_, hrun, e8 _ (over data l n) hlo ?_ fun j hj => setRow_other w g' j _ hj, ?_⟩
    · rw [setRow_heap w g' _ _ 5 _ e6]
      have := over_splice (l := l) hn
      rw [hlen] at this
      rw [this]
    · exact below_setRow (Below.refl _ _) e4 _
theorem step_copy_page {w : World} {ops : Array Oper} {o : Oper} {a : Act} {K : Act → World → Prop} {Q : Exit → Act → World → Prop} {E : Prop} (hgd : o.guard = none) (d y : Operand) (ho : o.op = .call { callee := .builtin .copy, args := #[d, y], argTypes := #[26, 26] })
    {base : Nat} {v : Value} {L : List (List UInt8)} (h : OwnPages w base v L) {k : Nat} {l : List UInt8} (hk : L[k]? = some l) {g : Nat} {b c : Nat} (hv : v = .slice (some ⟨b, 0, none⟩) L.length c) (hg : w.cell? ⟨b, 0 + k, none⟩ = some (pageV g))
    {sa : Option Addr} {n sc : Nat} {data : List UInt8} (hd : a.eval d = pageV g) (hy : a.eval y = .slice sa n sc) (hs : RowsAt 1 encB w sa (data.take n)) (hn : n ≤ data.length) (h64 : n ≤ 64)
    (hk' : ∀ w', OwnPages w' base v (L.set k (over data l n)) → Below base w w' → K (a.put o.dst (goInt n)) w') : if Region.wanted o (yielded ops a.tmps) = true then Oper.wp Try.prog o a w K Q else E := by
  have hw : Region.wanted o (yielded ops a.tmps) = true := by simp [Region.wanted, hgd]
  rw [if_pos hw]
  obtain ⟨w', hr, h2, h3⟩ := run_copy_page h hk hv hg (sc := sc) hs hn h64 o.type
  unfold Oper.wp execOp
  simp only [ho, resolve, invoke, builtin, Sem.run_bind, Sem.run_pure, Result.andThen_ok, List.map_toArray, List.map_cons, List.map_nil, hd, hy, hr]
  exact hk' w' h2 h3
theorem full_ts {v : Value} {l : List UInt8} {w : World} {Q : Ending → World → Prop} (h : IsBytes w v l) (k : ∀ q w', OwnPage w' w.heap.size (pageV q) (full l) → Below w.heap.size w w' → Q (.returned (.slice (some ⟨q, 0, none⟩) 64 64)) w') : Calls Try.prog 58 #[v] w Q :=
  (full_any v l w h).mono fun e w' ⟨u, he, hu, hb⟩ => by
    subst he
    obtain ⟨q, rfl, h2⟩ := id hu
    exact k q w' hu hb
theorem OwnPage.alloc {w : World} {base : Nat} {v : Value} {l : List UInt8} (h : OwnPage w base v l) (o : Obj) : OwnPage (w.alloc o) base v l := h.keep (below_new _ _)
theorem OwnPage.drew {w : World} {base : Nat} {v : Value} {l : List UInt8} (h : OwnPage w base v l) : OwnPage w.drew base v l := h
theorem below_alloc' {a w : World} {o : Obj} (hB : Below a.heap.size a w) : Below a.heap.size a (w.alloc o) := hB.alloc hB.size o
theorem below_drew' {B : Nat} {a w : World} (h : Below B a w) : Below B a w.drew := h.drew
theorem below_undrew {B : Nat} {a w : World} (h : Below B a.drew w) : Below B a w := ⟨h.os, h.tape, h.output, h.size, h.block⟩
theorem below_step {a w w' : World} (h : Below w.heap.size w w') (k : Below a.heap.size a w) : Below a.heap.size a w' := below_trans k h
end Go.Proofs.Ytcembocnkndlhaa
/- The reference's walks: Full, pages. -/
namespace Go.Proofs.Ytcembocnkndlhaa
open Go.RowKit
/-- A slice of bytes that the call has made by appending. -/
def OwnB (w : World) (base : Nat) (u : Value) (l : List UInt8) : Prop := w.ownsRow base 5 1 u l.length (bytesV l) ∧ u ≠ .slice none 0 0
theorem OwnB.keep {w w' : World} {base : Nat} {u : Value} {l : List UInt8} (h : OwnB w base u l) (hb : Below w.heap.size w w') : OwnB w' base u l := ⟨own_keep h.1 hb, h.2⟩
theorem OwnB.is {w : World} {base : Nat} {u : Value} {l : List UInt8} (h : OwnB w base u l) (hm : l.length ≤ 9223372036854775807) : IsBytes w u l :=
  IsRows.of_owns (by rw [flat_bytes]; exact h.1) (fun _ _ => rfl) hm
theorem OwnB.form {w : World} {base : Nat} {u : Value} {l : List UInt8} (h : OwnB w base u l) : ∃ g cap cur, u = .slice (some ⟨g, 0, none⟩) l.length cap ∧ base ≤ g ∧ w.heap[g]? = some (.cells cur 5 (0, 0)) ∧ l.length ≤ cap ∧ cap ≤ maxLen ∧ cur.size = cap ∧ cur.toList.take l.length = bytesV l := by
  obtain ⟨⟨h1, h2⟩, h3⟩ := h
  rcases h2 with ⟨rfl, _⟩ | ⟨g, cap, cur, rfl, a, b, c, d, e, f⟩
  · exact absurd rfl h3
  · exact ⟨g, cap, cur, rfl, a, b, c, d, by rw [e, Nat.mul_one], by rw [Nat.mul_one] at f; exact f⟩
theorem bytesV_append (a b : List UInt8) : bytesV (a ++ b) = bytesV a ++ bytesV b := by simp [bytesV]
theorem bytes_one (l : List UInt8) : ∀ y ∈ l, ∀ u ∈ encB y, u.oneCell' = true := by
  intro y _ u hu
  simp [encB] at hu; subst hu; rfl
theorem cell_one' (w : World) (x : Value) (t : TypeId) : ∀ j u, [x][j]? = some u → (w.alloc (.cells #[x] t)).cell? ((⟨w.heap.size, 0, none⟩ : Addr).add j) = some u := by
  intro j u hj
  have hj0 : j = 0 := by have := (List.getElem?_eq_some_iff.1 hj).1; simp at this; exact this
  subst hj0
  obtain rfl : x = u := by simpa using hj
  exact cell_at (heap_alloc_new w _) rfl
set_option maxHeartbeats 1000000 in
set_option maxRecDepth 100000 in
theorem rFull_any (v : Value) (l : List UInt8) (w : World) (h : IsBytes w v l) (hl : l.length ≤ 100000) :
    Calls Try.prog 35 #[v] w fun e w' => ∃ u, e = .returned u ∧ OwnB w' w.heap.size u (rfull l) ∧ Below w.heap.size w w' := by
  obtain ⟨i0, hi, hz0, hz1, hz2⟩ := info_parts info5
  have hr0 := h
  obtain ⟨a, c, rfl, -, hm⟩ := h
  have h0 : (w.alloc (.cells #[] 5)).ownsRow w.heap.size 5 1 (.slice (some ⟨w.heap.size, 0, none⟩) 0 0) 0 [] := World.ownsRow_lit w #[] 0 (Nat.le_refl _) (by decide) rfl
  have b0 := below_new w (.cells #[] 5)
  have hx := hr0.keep b0
  have h1 := bytes_one l
  go_enter Try.func35, Try.ntmps35
  go_wp2_with (at_builtin; refine wpList_append_rows rfl encB _ _ 26 rfl w.heap.size 5 i0 (.int .u8 0) 1 1 Try.underlying26 hi hz0 hz1 hz2 rfl (by decide) _ _ _ rfl h0 _ l rfl hx (fun _ _ => rfl) h1 (by unfold maxLen; omega) (by omega) (by simp) ?_; intro v1 w1 hown1 hgrow1 hat1)
  have hb1 : Below w.heap.size w w1 := b0.grown hgrow1 (by simp) (own_from h0)
  have hO1 : OwnB w1 w.heap.size v1 l := by
    refine ⟨?_, ?_⟩
    · have := hown1; rw [flat_bytes] at this; simpa using this
    · rintro rfl
      rcases hat1 with h | h
      · cases h
      · cases h
  clear hown1 hgrow1 hat1 hx h1 h0 b0 hr0
  go_loopg [3] (64 - l.length) (fun g vo wr => ∃ m : Nat, m + g = 64 - l.length ∧ OwnB wr w.heap.size vo (l ++ zeros m) ∧ Below w.heap.size w wr)
  case atStart => exact ⟨0, by omega, by simpa [zeros] using hO1, hb1⟩
  case round =>
    obtain ⟨m, hm', hO, hb⟩ := hrel
    obtain ⟨g, cap, cur, rfl, k1, k2, k3, k4, k5, k6⟩ := hO.form
    have hlen : (l ++ zeros m).length = l.length + m := by simp [zeros]
    have HZ : l ++ zeros m ++ [0] = l ++ zeros (m + 1) := by
      rw [List.append_assoc]; congr 1; unfold zeros; rw [← List.replicate_succ']
    have HZ' := Lib.hid HZ
    have hOw := hO.1
    have hfin : Hid (64 ≤ l.length + m → l ++ zeros m = rfull l) := Lib.hid fun h => by
      unfold rfull
      rw [show m = 64 - l.length by omega]
    generalize l ++ zeros m = M at *
    have HL := Lib.hid hlen
    by_cases hlt : M.length < 64
    · have hd : decide ((M.length : Int) < 64) = true := decide_eq_true (by omega)
      clear k2 k6 HZ hlen hO
      go_wp2_with (at_builtin; refine wpList_append_own _ rfl _ _ 26 rfl w.heap.size 5 i0 (.int .u8 0) 1 1 Try.underlying26 hi hz0 hz1 hz2 rfl (by decide) _ _ _ rfl (hOw.alloc _) ⟨wr.heap.size, 0, none⟩ 1 1 [.int .u8 0] rfl rfl (cell_one' _ _ _) (by intro u hu; obtain rfl := List.mem_singleton.1 hu; rfl) (by unfold maxLen; omega) (by omega) (by have := hb.size; simp; omega) ?_; intro v2 w2 hown2 hgrow2 hne2)
      go_roundg (gk - 1)
      case measure => have := HL.out; omega
      case rel =>
        refine ⟨m + 1, by have := HL.out; omega, ⟨?_, ?_⟩, ?_⟩
        · rw [← HZ'.out, List.length_append, bytesV_append]; exact hown2
        · intro e
          exact absurd (hne2.1 e).2 (by decide)
        · exact (hb.alloc (by have := hb.size; omega) _).grown hgrow2 (by have := hb.size; simp; omega) (own_from hOw)
    · have hd : decide ((M.length : Int) < 64) = false := decide_eq_false (by omega)
      clear k2 k6 HZ
      go_wp2
      go_ret
      rw [← hfin.out (by omega)]
      exact ⟨_, rfl, hO, hb⟩
/-! ### pages that the reference owns -/
def OwnR (w : World) (base : Nat) (v : Value) (L : List (List UInt8)) : Prop :=
  ∃ us : List Value, w.ownsRow base 26 1 v L.length us ∧ us.length = L.length ∧ (∀ (i : Nat) (u : Value) (l : List UInt8), us[i]? = some u → L[i]? = some l → OwnB w base u l ∧ v.ownBlock ≠ u.ownBlock) ∧ ∀ (i j : Nat) (u u' : Value), i ≠ j → us[i]? = some u → us[j]? = some u' → u.ownBlock ≠ u'.ownBlock
theorem OwnR.nil (w : World) (base : Nat) : OwnR w base (.slice none 0 0) [] := ⟨[], World.ownsRow_nil _ _ _ _, rfl, by simp, by simp⟩
theorem OwnR.keep {w w' : World} {base : Nat} {v : Value} {L : List (List UInt8)} (h : OwnR w base v L) (hb : Below w.heap.size w w') : OwnR w' base v L := by
  obtain ⟨us, h1, h2, h3, h4⟩ := h
  exact ⟨us, own_keep h1 hb, h2, fun i u l hu hl => ⟨(h3 i u l hu hl).1.keep hb, (h3 i u l hu hl).2⟩, h4⟩
theorem OwnR.len {w : World} {base : Nat} {v : Value} {L : List (List UInt8)} (h : OwnR w base v L) : ∃ a c, v = .slice a L.length c ∧ L.length ≤ c ∧ c ≤ 9223372036854775807 := by
  obtain ⟨us, ⟨_, h1⟩, _⟩ := h
  rcases h1 with ⟨rfl, h0⟩ | ⟨g, cap, cur, rfl, _, _, h5, h6, _⟩
  · exact ⟨none, 0, by rw [h0], by omega, by omega⟩
  · exact ⟨_, _, rfl, h5, by unfold maxLen at h6; omega⟩
theorem OwnR.is {w : World} {base : Nat} {v : Value} {L : List (List UInt8)} (h : OwnR w base v L) (hm : L.length ≤ 9223372036854775807) (hl : ∀ l ∈ L, l.length ≤ 9223372036854775807) : IsPages w v L := by
  obtain ⟨us, h1, h2, h3, h4⟩ := h
  refine ⟨us, IsRows.of_owns (base := base) (e := 26) (by rw [flatV, h2]; exact h1) (fun _ _ => rfl) (by rw [h2]; exact hm), h2, fun i u l hu hll => (h3 i u l hu hll).1.is (hl l (List.mem_of_getElem? hll))⟩
theorem OwnB.one {w : World} {base : Nat} {u : Value} {l : List UInt8} (h : OwnB w base u l) : u.oneCell' = true := by
  obtain ⟨g, cap, cur, rfl, _⟩ := h.form; rfl
/-- A page more. -/
theorem run_pushR {wr w : World} {base : Nat} {v : Value} {L : List (List UInt8)} {u : Value} {g1 : Nat} {l : List UInt8} {t ty bt : TypeId} (ht : Try.prog.underlying t = some (.slice 26)) (hO : OwnR wr base v L) (hb : Below wr.heap.size wr w) (hu : OwnB w wr.heap.size u l) (hbase : base ≤ wr.heap.size)
    (hblk : w.heap[g1]? = some (.cells #[u] bt (0, 0))) (hL : L.length ≤ 1000) :
    ∃ g cap w', (Builtin.append_ #[t, t] ty #[v, .slice (some ⟨g1, 0, none⟩) 1 1]).run Try.prog w = .ok (.slice (some ⟨g, 0, none⟩) (L.length + 1) cap) w' ∧ OwnR w' base (.slice (some ⟨g, 0, none⟩) (L.length + 1) cap) (L ++ [l]) ∧ Below base wr w' ∧ wr.grownBy w' v.ownBlock := by
  obtain ⟨i0, hi, hz0, hz1, hz2⟩ := info_parts info26
  obtain ⟨us, k1, k2, k3, k4⟩ := hO
  have hown := own_keep k1 hb
  obtain ⟨q, qc, qcur, rfl, q1, q2, q3⟩ := id hu.form
  obtain ⟨g, cap, w', hrun, h2, hg, hat, h5⟩ := run_append_lies (P := Try.prog) w t ty base 26 i0 (.slice none 0 0) 1 24 ht hi hz0 hz1 hz2 rfl (by decide) v L.length us hown ⟨g1, 0, none⟩ 1 1 [.slice (some ⟨q, 0, none⟩) l.length qc] rfl
    (fun j u hj => by
      have hj0 : j = 0 := by have := (List.getElem?_eq_some_iff.1 hj).1; simp at this; exact this
      subst hj0
      obtain rfl : Value.slice (some ⟨q, 0, none⟩) l.length qc = u := by simpa using hj
      exact cell_at hblk rfl) (by intro u hu; obtain rfl := List.mem_singleton.1 hu; rfl) (by decide) (by unfold maxLen; omega) (by omega) (by have := hb.size; omega) _ rfl
  have hlt : ∀ x ∈ us, ∀ k, x.ownBlock = some k → base ≤ k ∧ k < wr.heap.size := by
    intro x hx
    obtain ⟨i, hi, rfl⟩ := List.getElem_of_mem hx
    exact (k3 i us[i] (L[i]'(by omega)) (List.getElem?_eq_getElem hi) (List.getElem?_eq_getElem (by omega))).1.1.lt
  have hvb : ∀ k, v.ownBlock = some k → base ≤ k ∧ k < wr.heap.size := k1.lt
  have hql : q < w.heap.size := block_lt q2
  have hbs := hb.size
  have hsome : ∀ x ∈ us, ∃ k, x.ownBlock = some k := by
    intro x hx
    obtain ⟨i, hi, rfl⟩ := List.getElem_of_mem hx
    obtain ⟨g, cap, cur, e, _⟩ := (k3 i us[i] (L[i]'(by omega)) (List.getElem?_eq_getElem hi) (List.getElem?_eq_getElem (by omega))).1.form
    exact ⟨g, by rw [e]; rfl⟩
  have hne : ∀ (i : Nat) (x : Value) (y : List UInt8), us[i]? = some x → L[i]? = some y → some g ≠ x.ownBlock := by
    intro i x y hx hy e
    rcases hat with h | h
    · exact (k3 i x y hx hy).2 (h.trans e)
    · have := hlt x (List.mem_of_getElem? hx) g e.symm; omega
  have hgq : g ≠ q := by
    intro e
    subst e
    rcases hat with h | h
    · have := (hvb g h).2; omega
    · omega
  refine ⟨g, cap, w', hrun, ⟨us ++ [.slice (some ⟨q, 0, none⟩) l.length qc], by rw [List.length_append]; exact h2, by simp [k2], ?_, ?_⟩, ?_, ?_⟩
  · intro i x y hx hy
    rcases Nat.lt_or_ge i us.length with hi | hi
    · rw [List.getElem?_append_left hi] at hx
      rw [List.getElem?_append_left (by omega)] at hy
      obtain ⟨h6, h7⟩ := k3 i x y hx hy
      refine ⟨⟨((h6.keep hb).1).kept hg (.inr fun e => h7 e.symm), h6.2⟩, hne i x y hx hy⟩
    · rw [List.getElem?_append_right hi] at hx
      rw [List.getElem?_append_right (by omega)] at hy
      have h0 : i - us.length = 0 := by
        have := (List.getElem?_eq_some_iff.1 hx).1
        simp at this; omega
      rw [← k2, h0] at hy
      rw [h0] at hx
      obtain rfl : Value.slice (some ⟨q, 0, none⟩) l.length qc = x := by simpa using hx
      obtain rfl : l = y := by simpa using hy
      refine ⟨⟨World.ownsRow.kept ⟨hu.1.1, ?_⟩ hg (.inr fun e => ?_), hu.2⟩, fun e => hgq (by simpa [Value.ownBlock] using e)⟩
      · rcases hu.1.2 with ⟨e, _⟩ | ⟨g', cap', cur', e, a, b⟩
        · cases e
        · exact .inr ⟨g', cap', cur', e, by omega, b⟩
      · have := hvb q (by rw [← e]; rfl); omega
  · intro i j x y hij hx hy
    rcases Nat.lt_or_ge i us.length with hi | hi
    · rw [List.getElem?_append_left hi] at hx
      rcases Nat.lt_or_ge j us.length with hj | hj
      · rw [List.getElem?_append_left hj] at hy
        exact k4 i j x y hij hx hy
      · rw [List.getElem?_append_right hj] at hy
        have h0 : j - us.length = 0 := by
          have := (List.getElem?_eq_some_iff.1 hy).1
          simp at this; omega
        rw [h0] at hy
        obtain rfl : Value.slice (some ⟨q, 0, none⟩) l.length qc = y := by simpa using hy
        intro e
        have := (hlt x (List.mem_of_getElem? hx) q e).2; omega
    · rw [List.getElem?_append_right hi] at hx
      have h0 : i - us.length = 0 := by
        have := (List.getElem?_eq_some_iff.1 hx).1
        simp at this; omega
      rw [h0] at hx
      obtain rfl : Value.slice (some ⟨q, 0, none⟩) l.length qc = x := by simpa using hx
      rcases Nat.lt_or_ge j us.length with hj | hj
      · rw [List.getElem?_append_left hj] at hy
        intro e
        have := (hlt y (List.mem_of_getElem? hy) q e.symm).2; omega
      · have := (List.getElem?_eq_some_iff.1 hy).1
        simp at this; omega
  · refine (hb.mono hbase).trans ⟨hg.os, hg.tape, hg.output, hg.size, fun k hk => hg.block k (by omega) fun e => ?_⟩
    have := (hvb k e.symm).1; omega
  · exact ⟨hg.os.trans hb.os, hg.tape.trans hb.tape, hg.output.trans hb.output, Nat.le_trans hb.size hg.size, fun k hk hne => (hg.block k (Nat.lt_of_lt_of_le hk hb.size) hne).trans (hb.block k hk)⟩
theorem wp_pushR {wr w : World} {o : Oper} {a : Act} {K : Act → World → Prop} {Q : Exit → Act → World → Prop} (s y : Operand) (t : TypeId) (ho : o.op = .call { callee := .builtin .append, args := #[s, y], argTypes := #[t, t] }) (ht : Try.prog.underlying t = some (.slice 26))
    {base : Nat} {v : Value} {L : List (List UInt8)} {u : Value} {g1 : Nat} {l : List UInt8} {bt : TypeId} (hs : a.eval s = v) (hy : a.eval y = .slice (some ⟨g1, 0, none⟩) 1 1) (hO : OwnR wr base v L) (hb : Below wr.heap.size wr w) (hu : OwnB w wr.heap.size u l) (hbase : base ≤ wr.heap.size)
    (hblk : w.heap[g1]? = some (.cells #[u] bt (0, 0))) (hL : L.length ≤ 1000)
    (h : ∀ g cap w', OwnR w' base (.slice (some ⟨g, 0, none⟩) (L.length + 1) cap) (L ++ [l]) → Below base wr w' → wr.grownBy w' v.ownBlock → K (a.put o.dst (.slice (some ⟨g, 0, none⟩) (L.length + 1) cap)) w') : o.wp Try.prog a w K Q := by
  obtain ⟨g, cap, w', hr, h2, h3, h4⟩ := run_pushR (ty := o.type) ht hO hb hu hbase hblk hL
  unfold Oper.wp execOp
  simp only [ho, resolve, invoke, builtin, Sem.run_bind, Sem.run_pure, Result.andThen_ok, List.map_toArray, List.map_cons, List.map_nil, hs, hy, hr]
  exact h g cap w' h2 h3 h4
theorem wpList_pushR {wr w : World} {ops : Array Oper} {rest : List Oper} {o : Oper} {a : Act} {Q : Exit → Act → World → Prop} (hgd : o.guard = none) (s y : Operand) (t : TypeId) (ho : o.op = .call { callee := .builtin .append, args := #[s, y], argTypes := #[t, t] }) (ht : Try.prog.underlying t = some (.slice 26))
    {base : Nat} {v : Value} {L : List (List UInt8)} {u : Value} {g1 : Nat} {l : List UInt8} {bt : TypeId} (hs : a.eval s = v) (hy : a.eval y = .slice (some ⟨g1, 0, none⟩) 1 1) (hO : OwnR wr base v L) (hb : Below wr.heap.size wr w) (hu : OwnB w wr.heap.size u l) (hbase : base ≤ wr.heap.size)
    (hblk : w.heap[g1]? = some (.cells #[u] bt (0, 0))) (hL : L.length ≤ 1000)
    (h : ∀ g cap w', OwnR w' base (.slice (some ⟨g, 0, none⟩) (L.length + 1) cap) (L ++ [l]) → Below base wr w' → wr.grownBy w' v.ownBlock → wpList Try.prog ops Q rest (a.put o.dst (.slice (some ⟨g, 0, none⟩) (L.length + 1) cap)) w') : wpList Try.prog ops Q (o :: rest) a w :=
  wpList_plain hgd fun _ hK => wp_pushR s y t ho ht hs hy hO hb hu hbase hblk hL fun g cap w' h2 h3 h4 => hK _ _ (h g cap w' h2 h3 h4)
theorem not_row {W : World} {b : Nat} {cs : Array Value} {t e : TypeId} (h : W.heap[b]? = some (.cells cs t (0, 0))) (hte : t ≠ e) {base size k : Nat} {v : Value} {xs : List Value} (hr : W.ownsRow base e size v k xs) : some b ≠ v.ownBlock := by
  rcases hr.2 with ⟨rfl, _⟩ | ⟨g, cap, cur, rfl, _, hgb, _⟩
  · simp [Value.ownBlock]
  · intro e'
    obtain rfl : b = g := by simpa [Value.ownBlock] using e'
    have := h.symm.trans hgb
    simp at this
    exact hte this.2
theorem OwnR.row_ne {w : World} {base : Nat} {v : Value} {L : List (List UInt8)} (h : OwnR w base v L) {b : Nat} {cs : Array Value} {t : TypeId} (hb : w.heap[b]? = some (.cells cs t (0, 0))) (hte : t ≠ 26) : some b ≠ v.ownBlock := by
  obtain ⟨us, h1, _⟩ := h
  exact not_row hb hte h1
theorem cell_other {w : World} {p : Addr} {v u : Value} {g i : Nat} (h : w.cell? p = some v) (hne : p.block ≠ g) : (w.setCell ⟨g, i, none⟩ u).cell? p = some v :=
  (World.cell?_of_block (w := w) (Below.heap_setCell _ _ _ _ hne)).trans h
theorem block_other {w : World} {b : Nat} {o : Obj} {u : Value} {g i : Nat} (h : w.heap[b]? = some o) (hne : b ≠ g) : (w.setCell ⟨g, i, none⟩ u).heap[b]? = some o := (Below.heap_setCell _ _ _ _ hne).trans h
/-- One of the pages: where it lies, and what they are when one byte of it is stored. -/
theorem OwnR.open_ {w : World} {base : Nat} {v : Value} {L : List (List UInt8)} (h : OwnR w base v L) {k : Nat} {l : List UInt8} (hk : L[k]? = some l) :
    ∃ b c g gc, v = .slice (some ⟨b, 0, none⟩) L.length c ∧ base ≤ b ∧ w.cell? ⟨b, k, none⟩ = some (.slice (some ⟨g, 0, none⟩) l.length gc) ∧ base ≤ g ∧ b ≠ g ∧ l.length ≤ gc ∧ gc ≤ 9223372036854775807 ∧ (∃ cur, w.heap[g]? = some (.cells cur 5 (0, 0)) ∧ cur.size = gc) ∧
      ∀ (i : Nat) (c : UInt8), i < l.length → OwnR (w.setCell ⟨g, i, none⟩ (.int .u8 c.toNat)) base v (L.set k (l.set i c)) := by
  obtain ⟨us, h1, h2, h3, h4⟩ := h
  have hkl : k < L.length := (List.getElem?_eq_some_iff.1 hk).1
  have hku : k < us.length := by omega
  obtain ⟨h6, h7⟩ := h3 k us[k] l (List.getElem?_eq_getElem hku) hk
  obtain ⟨g, gc, cur, eu, k1, k2, k3, k4, k5, k6⟩ := h6.form
  rcases id h1.2 with ⟨rfl, h0⟩ | ⟨b, cap, bcur, rfl, hb, hbb, hn, hc, hs, ht⟩
  · omega
  · have hne : b ≠ g := fun e => h7 (by rw [eu, e]; rfl)
    refine ⟨b, cap, g, gc, rfl, hb, ?_, k1, hne, k3, by unfold maxLen at k4; omega, ⟨cur, k2, k5⟩, fun i c hi => ⟨us, ?_, by rw [List.length_set, h2], fun j x y hx hy => ?_, h4⟩⟩
    · have := h1.cells (g := b) rfl k us[k] (List.getElem?_eq_getElem hku)
      have hadd : (⟨b, 0, none⟩ : Addr).add k = ⟨b, k, none⟩ := by
        unfold Addr.add; split
        · rename_i h0; subst h0; simp
        · simp
      rw [hadd, eu] at this
      exact this
    · rw [List.length_set]
      refine ⟨h1.1, .inr ⟨b, cap, bcur, rfl, hb, ?_, hn, hc, hs, ht⟩⟩
      exact block_other hbb hne
    · rw [List.getElem?_set] at hy
      by_cases e : k = j
      · subst e
        rw [if_pos rfl, if_pos hkl] at hy
        obtain rfl : l.set i c = y := by simpa using hy
        rw [List.getElem?_eq_getElem hku] at hx
        obtain rfl : us[k] = x := by simpa using hx
        refine ⟨⟨⟨by simp [bytesV], ?_⟩, h6.2⟩, h7⟩
        refine .inr ⟨g, gc, cur.setIfInBounds i (.int .u8 c.toNat), by rw [eu]; simp, k1, ?_, by simpa using k3, k4, by simp [k5], ?_⟩
        · simp [World.setCell, Array.getElem?_modify, k2]
        · rw [Nat.mul_one, List.length_set, Array.toList_setIfInBounds, List.take_set, k6]
          unfold bytesV
          rw [List.map_set]
      · rw [if_neg e] at hy
        obtain ⟨h8, h9⟩ := h3 j x y hx hy
        refine ⟨⟨World.ownsRow.kept h8.1 (row := some g) ⟨rfl, rfl, rfl, by simp [World.setCell], fun m hm hne' => Below.heap_setCell _ _ _ _ fun e' => hne' (by rw [e'])⟩ (.inr fun e' => ?_), h8.2⟩, h9⟩
        exact h4 k j us[k] x e (List.getElem?_eq_getElem hku) hx (by rw [eu, e']; rfl)
end Go.Proofs.Ytcembocnkndlhaa
