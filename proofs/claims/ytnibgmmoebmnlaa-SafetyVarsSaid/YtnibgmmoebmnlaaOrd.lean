/- Orders of evaluation, in plain words: what both programs compute. -/
import Derived.Test.YtnibgmmoebmnlaaWg
namespace Go.Proofs.Ytnibgmmoebmnlaa
open Go.RowKit
/-- The set after the literals of out. -/
def aft (s : Nm → Bool) (body : List Lt) (out : List Nat) : Nm → Bool :=
  out.foldl (fun s i => match body[i]? with | some l => addAll s l.targs | none => s) s
theorem aft_snoc (s : Nm → Bool) (body : List Lt) (out : List Nat) (i : Nat) (h : i < body.length) : aft s body (out ++ [i]) = addAll (aft s body out) body[i].targs := by
  simp [aft, List.foldl_append, List.getElem?_eq_getElem h]
/-- May literal i come next? -/
def cand (s : Nm → Bool) (body : List Lt) (out : List Nat) (i : Nat) : Bool :=
  !decide (i ∈ out) && (match body[i]? with | some l => ready (aft s body out) l | none => false)
theorem cand_at (s : Nm → Bool) (body : List Lt) (out : List Nat) (i : Nat) (h : i < body.length) : cand s body out i = (!decide (i ∈ out) && ready (aft s body out) body[i]) := by
  simp [cand, List.getElem?_eq_getElem h]
def nextOf (s : Nm → Bool) (body : List Lt) (out : List Nat) : Option Nat := (List.range body.length).find? (cand s body out)
def orderGo (s : Nm → Bool) (body : List Lt) : Nat → List Nat → Option (List Nat)
  | 0, out => some out
  | f + 1, out => match nextOf s body out with
    | none => none
    | some i => orderGo s body f (out ++ [i])
def order (s : Nm → Bool) (body : List Lt) : Option (List Nat) := orderGo s body body.length []
theorem find_range_none {p : Nat → Bool} {n : Nat} (h : ∀ j, j < n → p j = false) : (List.range n).find? p = none := by
  rw [List.find?_eq_none]
  intro x hx
  rw [h x (List.mem_range.1 hx)]; simp
theorem find_range_some {p : Nat → Bool} {n i : Nat} (hi : i < n) (h : ∀ j, j < i → p j = false) (hp : p i = true) : (List.range n).find? p = some i := by
  rw [List.find?_eq_some_iff_getElem]
  refine ⟨hp, i, by simpa using hi, by simp, fun j hj => ?_⟩
  simp [h j hj]
theorem next_none {s : Nm → Bool} {body : List Lt} {out : List Nat} (h : ∀ j, j < body.length → cand s body out j = false) : nextOf s body out = none := find_range_none h
theorem next_some {s : Nm → Bool} {body : List Lt} {out : List Nat} {i : Nat} (hi : i < body.length) (h : ∀ j, j < i → cand s body out j = false) (hp : cand s body out i = true) : nextOf s body out = some i := find_range_some hi h hp
theorem orderGo_none {s : Nm → Bool} {body : List Lt} {out : List Nat} (hl : out.length < body.length) (h : nextOf s body out = none) : orderGo s body (body.length - out.length) out = none := by
  obtain ⟨f, hf⟩ : ∃ f, body.length - out.length = f + 1 := ⟨body.length - out.length - 1, by omega⟩
  rw [hf]; simp [orderGo, h]
theorem orderGo_some {s : Nm → Bool} {body : List Lt} {out : List Nat} {i : Nat} (hl : out.length < body.length) (h : nextOf s body out = some i) : orderGo s body (body.length - out.length) out = orderGo s body (body.length - (out ++ [i]).length) (out ++ [i]) := by
  obtain ⟨f, hf⟩ : ∃ f, body.length - out.length = f + 1 := ⟨body.length - out.length - 1, by omega⟩
  have : body.length - (out ++ [i]).length = f := by simp; omega
  rw [hf, this]; simp [orderGo, h]
theorem orderGo_end {s : Nm → Bool} {body : List Lt} {out : List Nat} (hl : body.length ≤ out.length) : orderGo s body (body.length - out.length) out = some out := by
  have : body.length - out.length = 0 := by omega
  rw [this]; rfl
def zs (l : List Nat) : List Int := l.map fun n : Nat => (n : Int)
/-- What Order returns: the numbers, and 0 or the error's number. -/
def orderR (r : Rl) (l : List Nm) : List Int × Int := match order (ofList l) r.lits with
  | some out => (zs out, 0)
  | none => ([], 80)
/-- The rule is no larger than the walks need. -/
def Fits (r : Rl) : Prop := r.lits.length ≤ 20 ∧ ∀ q ∈ r.lits, q.targs.length ≤ 6
/-! ### rows of flags, rows of numbers -/
def Bools (w : World) (b n : Nat) (f : Nat → Bool) : Prop := ∃ cs : Array Value, w.heap[b]? = some (.cells cs 4 (0, 0)) ∧ cs.size = n ∧ ∀ k, k < n → cs[k]? = some (.bool (f k))
section
variable {w w' : World} {b n : Nat} {f : Nat → Bool}
theorem Bools.lt (h : Bools w b n f) : b < w.heap.size := by obtain ⟨cs, h, _⟩ := h; exact (Array.getElem?_eq_some_iff.1 h).1
theorem Bools.cell (h : Bools w b n f) {k : Nat} (hk : k < n) : w.cell? ⟨b, k, none⟩ = some (.bool (f k)) := by
  obtain ⟨cs, h, hs, hc⟩ := h
  rw [cell_of_row w b k cs 4 (0, 0) h, hc k hk]
theorem Bools.frozen (h : Bools w b n f) (k : Nat) : w.frozen? ⟨b, k, none⟩ = false := by
  obtain ⟨cs, h, _⟩ := h
  simp [World.frozen?, h]
theorem Bools.kept {row : Option Nat} (h : Bools w b n f) (hg : w.grownBy w' row) (hne : some b ≠ row) : Bools w' b n f := by
  have hl := h.lt
  obtain ⟨cs, h, r⟩ := h
  exact ⟨cs, (hg.block b hl hne).trans h, r⟩
theorem Bools.keep (h : Bools w b n f) (hb : Below w.heap.size w w') : Bools w' b n f := h.kept (grown_none hb none) (by simp)
theorem Bools.alloc (h : Bools w b n f) (o : Obj) : Bools (w.alloc o) b n f := h.kept (World.grownBy_alloc w o none) (by simp)
theorem Bools.congr {g : Nat → Bool} (h : Bools w b n f) (e : ∀ k, k < n → f k = g k) : Bools w b n g := by
  obtain ⟨cs, h, hs, hc⟩ := h
  exact ⟨cs, h, hs, fun k hk => by rw [hc k hk, e k hk]⟩
theorem Bools.set (h : Bools w b n f) (k : Nat) (x : Bool) : Bools (w.setCell ⟨b, k, none⟩ (.bool x)) b n (fun j => if j = k then x else f j) := by
  obtain ⟨cs, h, hs, hc⟩ := h
  refine ⟨cs.setIfInBounds k (.bool x), by simp [World.setCell, Array.getElem?_modify, h], by simp [hs], fun j hj => ?_⟩
  rw [Array.getElem?_setIfInBounds]
  by_cases hjk : k = j
  · subst hjk; simp [hs, hj]
  · have hne : ¬ j = k := fun e => hjk e.symm
    rw [if_neg hjk, hc j hj]; simp [hne]
theorem Bools.made {base : Nat} (h : w.ownsRow base 4 1 (.slice (some ⟨b, 0, none⟩) n n) n (madeCells (Value.bool false).cells (n * 1)).toList) : Bools w b n (fun _ => false) := by
  rcases h.2 with ⟨h', _⟩ | ⟨g', cap', cur, h', hb, hg, hnc, hcm, hcs, htake⟩
  · simp at h'
  · simp only [Value.slice.injEq, Option.some.injEq, Addr.mk.injEq, and_true, true_and] at h'
    obtain ⟨rfl, rfl⟩ := h'
    refine ⟨cur, hg, by simpa using hcs, fun k hk => ?_⟩
    have e : (Value.bool false).cells = #[.bool false] := rfl
    rw [e, toList_madeCells_one] at htake
    have := congrArg (fun l : List Value => l[k]?) htake
    simp only [Nat.mul_one] at this
    rw [List.getElem?_take_of_lt hk, List.getElem?_replicate, if_pos hk] at this
    simpa using this
end
theorem grown_setCell (w : World) (a : Addr) (u : Value) : w.grownBy (w.setCell a u) (some a.block) :=
  ⟨rfl, rfl, rfl, by simp, fun k _ hk => heap_setCell_other w a k u (fun e => hk (by rw [e]))⟩
def OwnInts (w : World) (base : Nat) (v : Value) (l : List Int) : Prop := w.ownsRow base 3 1 v l.length (l.flatMap encI)
theorem OwnInts.is {w : World} {base : Nat} {v : Value} {l : List Int} (h : OwnInts w base v l) (hm : l.length ≤ 9223372036854775807) : IsInts w v l :=
  IsRows.of_owns h (fun _ _ => rfl) hm
def lenV : Value → Nat
  | .slice _ n _ => n
  | _ => 0
theorem OwnInts.len {w : World} {base : Nat} {v : Value} {l : List Int} (h : OwnInts w base v l) : ∃ a c, v = .slice a l.length c := by
  rcases h.2 with ⟨rfl, h0⟩ | ⟨g, cap, cur, hv, _⟩
  · exact ⟨none, 0, by rw [h0]⟩
  · exact ⟨_, _, hv⟩
theorem zs_length (l : List Nat) : (zs l).length = l.length := by simp [zs]
theorem OwnInts.lenz {w : World} {base : Nat} {v : Value} {l : List Nat} (h : OwnInts w base v (zs l)) : ∃ a c, v = .slice a l.length c := by
  obtain ⟨a, c, e⟩ := h.len
  exact ⟨a, c, by rw [e, zs_length]⟩
theorem cell_int (w : World) (x : Int) : ∀ j u, ([.int .i64 x] : List Value)[j]? = some u → (w.alloc (.cells #[.int .i64 x] 3)).cell? ((⟨w.heap.size, 0, none⟩ : Addr).add j) = some u :=
  World.news_of_block (heap_alloc_new w _)
theorem cell_int' (w : World) (a : Addr) (u : Value) (x : Int) : ∀ j u', ([.int .i64 x] : List Value)[j]? = some u' → ((w.setCell a u).alloc (.cells #[.int .i64 x] 3)).cell? ((⟨w.heap.size, 0, none⟩ : Addr).add j) = some u' := by
  have := cell_int (w.setCell a u) x
  simpa using this
end Go.Proofs.Ytnibgmmoebmnlaa
