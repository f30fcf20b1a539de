/- A range over a function that changes boxes of its own: the caller's rounds all go on. -/
import Derived.Test.YtdibijhaiaiifaaDoorCb
import Derived.Sort.LoopGhostIn
namespace Go.Proofs.YtdibijhaiaiifaaDoor
open Go.RowKit Go.Shelf
/-- The iterator's promise: what has come; X: the blocks that it changes; Ok: what it gives. -/
def SeqBox {α : Type} (F : Fence) (n : Nat) (P : Program) (g : Nat) (lb : Array Value) (encs : α → Array Value) (Ok : α → Prop) (X : Nat → Prop) (Kp : World → World → Prop) (S : List α → Prop) (N : Nat) (w : World) : Prop :=
  ∀ (l : Nat) (J : List α → World → Prop) (W : World), Below w.heap.size w W → (∀ s A B, J s A → Agree X A B → J s B) →
    (∀ pre x A, Ok x → J pre A → pre.length < N → YieldAt F (n - 1) P l (encs x) A fun e B => e = .returned (.bool true) ∧ J (pre ++ [x]) B ∧ Kp A B) →
    J [] W → CallsIn F n P g (#[.func (.yield l) #[] #[]] ++ lb) W fun e B => (∃ v, e = .returned v) ∧ ∃ xs, S xs ∧ J xs B
/-- The two blocks of book-keeping: the record, and the block of deferred calls before it. -/
structure Books (b : Nat) (r : Loop) (W : World) : Prop where
  lp : W.heap[b + 1]? = some (.loop r)
  df : W.heap[b]? = some (.deferred (some []))
theorem Books.agree {b : Nat} {r : Loop} {A B : World} {X : Nat → Prop} (h : Books b r A) (hg : Agree X A B) (hx : ∀ k, X k → k < b) : Books b r B :=
  ⟨(hg.block _ (Array.getElem?_eq_some_iff.1 h.lp).1 fun e => by have := hx _ e; omega).trans h.lp, (hg.block _ (Array.getElem?_eq_some_iff.1 h.df).1 fun e => by have := hx _ e; omega).trans h.df⟩
theorem Books.kept {b : Nat} {r : Loop} {A B : World} (h : Books b r A) (hk : KeepsFrom b A B) : Books b r B :=
  ⟨hk.same _ _ (by omega) h.lp rfl, hk.same _ _ (Nat.le_refl _) h.df rfl⟩
theorem Books.turn {b : Nat} {r : Loop} {A : World} (h : Books b r A) (q : Loop) : Books b q (A.putObj (b + 1) (.loop q)) :=
  ⟨World.putObj_heap_same (Array.getElem?_eq_some_iff.1 h.lp).1, (World.putObj_heap_other (by omega)).trans h.df⟩
theorem Books.start (w : World) (r : Loop) : Books w.heap.size r ((w.alloc (.deferred (some []))).alloc (.loop r)) := by
  constructor
  · have := World.alloc_heap_new (w.alloc (.deferred (some []))) (.loop r)
    rwa [World.size_alloc] at this
  · exact (Below.heap_alloc _ _ _ (by simp)).trans (World.alloc_heap_new w _)
theorem Agree.putObj {X : Nat → Prop} (A : World) {l : Nat} (hx : X l) (o : Obj) : Agree X A (A.putObj l o) := by
  have h := grownBy_putObj' A l o
  exact ⟨h.os, h.tape, h.output, h.size, fun k hk hn => h.block k hk fun e => hn (by injection e with e; rw [e]; exact hx)⟩
theorem range_box {α : Type} {F : Fence} {n : Nat} {P : Program} {g : Operand} {ps : Array Tmp} {assign body : Code} {Q : Exit → Act → World → Prop} {a : Act} {w : World}
    (hro : F.round = none) (h1 : 1 ≤ n) {gf : Nat} {lb : Array Value} (hg : a.eval g = .func (.func gf) #[] lb) (hFg : F.fn gf) (eg : ∀ args w, (callFunc gf args).run P w = .ok (.enter gf args) w)
    {encs : α → Array Value} {Ok : α → Prop} {X : Nat → Prop} {Kp : World → World → Prop} {S : List α → Prop} {N : Nat} {w0 : World} (hseq : SeqBox F (n - 1) P gf lb encs Ok X Kp S N w0)
    (hX : ∀ k, X k → k < w.heap.size)
    (hKt : ∀ {A B C : World}, Kp A B → Kp B C → Kp A C) (hKb : ∀ (W : World) (l : Nat) (o o' : Obj), w.heap.size ≤ l → W.heap[l]? = some o → o.isCells = false → o.isWalk = false → Kp W (W.putObj l o'))
    (hb0 : Below w0.heap.size w0 w) (hps : ∀ x, (encs x).size = ps.size)
    (I : List α → World → Prop) (hI : ∀ s A B, I s A → Agree (fun k => X k ∨ k = w.heap.size ∨ k = w.heap.size + 1) A B → I s B) (h0 : I [] w) (Ax : α → Act → World → Prop) (hAx : ∀ x a' A B, Ax x a' A → Agree (fun k => k = w.heap.size ∨ k = w.heap.size + 1) A B → Ax x a' B)
    (hassign : ∀ (l : Nat) (pre : List α) (x : α) (W : World) (K : Act → World → Prop), Ok x → w.heap.size + 2 ≤ W.heap.size → I pre W → (∀ a' W', KeepsFrom w.heap.size W W' → Kp W W' → I pre W' → Ax x a' W' → K a' W') → assign.wpIn (F.inRound l) (n - 1 - 1) P (Exit.then K (fun _ _ _ => False)) { tmps := (ps.zip (encs x)).foldl (fun t (p, v) => t.setIfInBounds p v) a.tmps, defers := [] } W)
    (hbody : ∀ (l : Nat) (pre : List α) (x : α) (a' : Act) (W : World), w.heap.size ≤ l → Ok x → I pre W → Ax x a' W → pre.length < N → body.wpIn (F.inRound l) (n - 1 - 1) P (fun e _ B => e = .normal ∧ KeepsFrom w.heap.size W B ∧ Kp W B ∧ I (pre ++ [x]) B) a' W)
    (hdone : ∀ (xs : List α) (W : World), S xs → I xs W → W.heap[w.heap.size]? = some (.deferred (some [])) → Q .normal { a with defers := { target := .collected w.heap.size, args := #[] } :: a.defers } W) :
    (Code.rangeFunc g ps assign body).wpIn F n P Q a w := by
  refine wpIn_rangeFunc fun fn hfn => ?_
  rw [hro]
  obtain ⟨r, hr⟩ : ∃ r : Loop, r = { state := .ready, pending := none, fn, tmps := a.tmps, params := ps, assign, body, defers := w.heap.size } := ⟨_, rfl⟩
  have hB := Books.start w r
  have hW := ((Below.refl w.heap.size w).alloc (Nat.le_refl _) (.deferred (some []))).alloc (by simp) (.loop r)
  have hIW : I [] ((w.alloc (.deferred (some []))).alloc (.loop r)) := hI _ _ _ (hI _ _ _ h0 (.of_below (below_new _ _))) (.of_below (below_new _ _))
  generalize hX2 : (w.alloc (.deferred (some []))).alloc (.loop r) = X2 at hB hW hIW
  refine ⟨w.heap.size + 1, [{ target := .collected w.heap.size, args := #[] }], X2, { target := .fn (.func gf) lb, args := #[.func (.yield (w.heap.size + 1)) #[] #[]] }, X2, gf, #[.func (.yield (w.heap.size + 1)) #[] #[]] ++ lb, X2, ?_, ?_, ?_, ?_, fun _ => h1, ?_⟩
  · rw [← hX2, hr]; exact run_enterLoop_outer _ _ _ _ _
  · simp only [resolve, hg]; simp [go_sem]
  · intro f' hf'; simp [Target.leads] at hf'; subst hf'; exact hFg
  · simp [invoke, go_sem, eg]
  refine (hseq (w.heap.size + 1) (fun pre W => I pre W ∧ Books w.heap.size r W) X2 (hb0.trans (hW.mono hb0.size)) (fun s A B h hgr => ⟨hI s A B h.1 (hgr.mono fun _ h => .inl h), h.2.agree hgr hX⟩) (fun pre x A hok h hN => ?_) ⟨hIW, hB⟩).mono ?_
  · obtain ⟨hi, hk⟩ := h
    have hy := run_yield (P := P) (args := encs x) hk.lp (by rw [hr]; exact hps x)
    rw [hr] at hy
    refine ⟨fn, _, assign, body, hy, roundIn_of_wpIn hfn (hassign _ pre x A _ hok (by have := block_lt hk.lp; omega) hi ?_)⟩
    intro a' A2 hka hpa hia hax
    have hk2 := hk.kept hka
    refine ⟨_, run_beginRound hk2.lp (by rw [hr]), ?_⟩
    have ht := hk2.turn { r with state := .busy }
    have hi2 := hI _ _ _ hia (Agree.putObj (l := w.heap.size + 1) A2 (.inr (.inr rfl)) (.loop { r with state := .busy }))
    have hx2 := hAx x a' _ _ hax (Agree.putObj (l := w.heap.size + 1) A2 (.inr rfl) (.loop { r with state := .busy }))
    have hp1 : Kp A (A2.putObj (w.heap.size + 1) (.loop { r with state := .busy })) := hKt hpa (hKb _ _ _ _ (by omega) hk2.lp rfl rfl)
    refine wpIn_mono (hbody (w.heap.size + 1) pre x a' _ (by omega) hok hi2 hx2 hN) ?_
    rintro e a3 B ⟨rfl, hkf, hkp, hi3⟩
    have hkB := ht.kept hkf
    have he := run_endRound (P := P) none hkB.lp
    refine ⟨_, _, he, rfl, ⟨hI _ _ _ hi3 (Agree.putObj (l := w.heap.size + 1) B (.inr (.inr rfl)) _), ?_⟩, hKt hp1 (hKt hkp (hKb _ _ _ _ (by omega) hkB.lp rfl rfl))⟩
    have := hkB.turn r
    rw [hr] at this ⊢
    exact this
  · rintro e B ⟨⟨v, rfl⟩, xs, hs, hi, hk⟩
    subst hr
    exact ⟨none, _, run_endLoop (P := P) hk.lp (by simp), hdone xs _ hs (hI _ _ _ hi (Agree.putObj (l := w.heap.size + 1) B (.inr (.inr rfl)) _)) ((World.putObj_heap_other (by omega)).trans hk.df)⟩
theorem wpListIn_hold {α : Type} {ok : World → α → Prop} {k bytes : Nat} {t e : TypeId} {z : Value} {enc : α → List Value} {wr w : World} {base : Nat} {v x : Value} {l m : List α} {ex : Nat → Prop} {F : Fence} {nF : Nat} {ops : Array Oper} {rest : List Oper} {o : Oper} {a : Act} {Q : Exit → Act → World → Prop} (hF : Fits t e k bytes z) (hE : Encs k enc) (hgd : o.guard = none) (s y : Operand) (ho : o.op = .call { callee := .builtin .append, args := #[s, y], argTypes := #[t, t] })
    (hs : a.eval s = v) (hy : a.eval y = x) (hO : Hold k e enc ok ex wr base v l) (hb : Below wr.heap.size wr w) (hm : IsRows k enc w x m) (hmo : ∀ u ∈ m, Off ok w (Ex v ex) u) (hbase : base ≤ wr.heap.size) (hL : l.length ≤ 1000000) (hM : m.length ≤ 1000000)
    (h : ∀ p c w', Hold k e enc ok ex w' base (.slice p (l ++ m).length c) (l ++ m) → Below base wr w' → w.grownBy w' v.ownBlock → wpListIn F nF Tryd.prog ops Q rest (a.put o.dst (.slice p (l ++ m).length c)) w') : wpListIn F nF Tryd.prog ops Q (o :: rest) a w := by
  refine wpListIn_plain hgd fun K hK => ?_
  obtain ⟨p, c, w', hr, h2, h3, h4⟩ := run_hold o.type hF hE hO hb hm hmo hbase hL hM
  unfold Oper.wpIn
  refine ⟨by simp [Oper.about, ho, resolve, Target.leads, Sem.run_pure], ?_⟩
  rw [Oper.semAt_plain F _ _ (by rw [ho]; intro c hc'; cases hc')]
  simp only [execOp, ho, resolve, invoke, builtin, Sem.run_bind, Sem.run_pure, Result.andThen_ok, List.map_toArray, List.map_cons, List.map_nil, hs, hy, hr]
  exact hK _ _ (h p c w' h2 h3 h4)
/-! ### the pairs of two relations -/
def argsRow (y : RR) : RR := ⟨y.pa, y.ca, y.t, none, 0, []⟩
/-- What pairs yields. -/
def pairsL : List RR → List RR → List (RR × RR)
  | [], [] => []
  | x :: a, [] => (x, noRow) :: pairsL a []
  | [], y :: b => (argsRow y, y) :: pairsL [] b
  | x :: a, y :: b => if cmpT x.t y.t < 0 then (x, noRow) :: pairsL a (y :: b) else if cmpT x.t y.t = 0 then (x, y) :: pairsL a b else (argsRow y, y) :: pairsL (x :: a) b
termination_by a b => a.length + b.length
theorem pairs_nil : pairsL [] [] = [] := by rw [pairsL]
theorem pairs_left (x : RR) (a : List RR) : pairsL (x :: a) [] = (x, noRow) :: pairsL a [] := by rw [pairsL]
theorem pairs_right (y : RR) (b : List RR) : pairsL [] (y :: b) = (argsRow y, y) :: pairsL [] b := by rw [pairsL]
theorem pairs_lt {x y : RR} {a b : List RR} (h : cmpT x.t y.t < 0) : pairsL (x :: a) (y :: b) = (x, noRow) :: pairsL a (y :: b) := by rw [pairsL, if_pos h]
theorem pairs_eq {x y : RR} {a b : List RR} (h : cmpT x.t y.t = 0) : pairsL (x :: a) (y :: b) = (x, y) :: pairsL a b := by rw [pairsL, if_neg (by omega), if_pos h]
theorem pairs_gt {x y : RR} {a b : List RR} (h : 0 < cmpT x.t y.t) : pairsL (x :: a) (y :: b) = (argsRow y, y) :: pairsL (x :: a) b := by rw [pairsL, if_neg (by omega), if_neg (by omega)]
end Go.Proofs.YtdibijhaiaiifaaDoor
