/- Parts Yp, Za: words, walks and laws that the claims of this seat share. -/
import Derived.Test.YtdibijhaiaiifaaDoorJ19
/- The walk of Rows. -/
namespace Go.Proofs.YtdibijhaiaiifaaDoor
open Go.RowKit
theorem walk_all : ∀ n : Nat, WalkC n
  | 0 => walk_zero
  | n + 1 => walk_succ n (walk_all n)
/-- The rows of a trie with a number of columns. -/
def rowsT (columns : Int) (t : Tr) : List Rw := if validC columns t && !emptyB t then walkL columns.toNat [] t else []
set_option maxHeartbeats 4000000 in
set_option maxRecDepth 1000000 in
theorem TRows_any (columns : Int) (t : TR) (w : World) (hT : Tab w) (ht : TrOk w t) (hl : Lim t.tr) (hr : (rowsT columns t.tr).length ≤ 100000) :
    Calls Tryd.prog 62 #[.int .i64 columns, trV t] w fun e w' => ∃ u L, e = .returned u ∧ Hold 2 44 encR RowOk noB w' w.heap.size u L ∧ Hid (rows L = rowsT columns t.tr) ∧ Below w.heap.size w w' := by
  have hlm := hl.len
  rw [TR.tr_vs, TR.tr_s] at hlm
  have hV := TValid_any columns t
  obtain ⟨v, hv⟩ : ∃ v, validC columns t.tr = v := ⟨_, rfl⟩
  obtain ⟨e, he⟩ : ∃ e, emptyB t.tr = e := ⟨_, rfl⟩
  have hE := fun W => empty_any t W (by omega)
  rw [← emptyB_tr, he] at hE
  rw [hv] at hV
  have HV := Lib.hid hv
  have HE := Lib.hid he
  unfold trV at hV hE
  have BA := below_new w (.cells #[t.vv, t.kv, t.wv] 64)
  have X := Cel.new w 64 [t.vv, t.kv, t.wv]
  obtain ⟨wA, hwA⟩ : ∃ z, w.alloc (.cells #[t.vv, t.kv, t.wv] 64) = z := ⟨_, rfl⟩
  rw [hwA] at X BA
  have q0 := X.at_ (j := 0) rfl
  have q1 := X.at_ (j := 1) rfl
  have q2 := X.at_ (j := 2) rfl
  clear hv he
  unfold trV
  go_enter Tryd.func62, Tryd.ntmps62
  go_upto_region 1 with fail
  clear hwA
  obtain ⟨b3, hb3⟩ : ∃ b, w.heap.size = b := ⟨_, rfl⟩
  have BA' := BA
  rw [hb3] at q0 q1 q2
  rw [hb3]
  go_wp2_with fail
  refine (hV wA (hT.keep BA) (ht.keep BA) hl).mono ?_
  rintro e1 w1 ⟨rfl, B1⟩
  replace q0 := cell_keep B1 q0
  replace q1 := cell_keep B1 q1
  replace q2 := cell_keep B1 q2
  have BB := below_trans BA B1
  cases v with
  | false =>
    have RES := Lib.hid (show rowsT columns t.tr = [] by unfold rowsT; rw [HV.out]; rfl)
    clear hV hE
    go_wp2
    go_ret
    exact ⟨_, [], rfl, Hold.nil _ _, Lib.hid (by rw [RES.out]; rfl), BB⟩
  | true =>
    go_wp2_with fail
    refine (hE w1).mono ?_
    rintro e2 w2 ⟨rfl, B2⟩
    replace q0 := cell_keep B2 q0
    replace q1 := cell_keep B2 q1
    replace q2 := cell_keep B2 q2
    have BC := below_trans BB B2
    cases e with
    | true =>
      have RES := Lib.hid (show rowsT columns t.tr = [] by unfold rowsT; rw [HV.out, HE.out]; rfl)
      clear hV hE
      go_wp2
      go_ret
      exact ⟨_, [], rfl, Hold.nil _ _, Lib.hid (by rw [RES.out]; rfl), BC⟩
    | false =>
      have RES : rowsT columns t.tr = walkL columns.toNat [] t.tr := by unfold rowsT; rw [HV.out, HE.out]; rfl
      have hc : 0 ≤ columns ∧ columns ≤ 4 := by
        have := HV.out
        unfold validC at this
        split at this
        · assumption
        · cases this
      have hvt : validT columns.toNat t.tr = true := by
        have := HV.out
        unfold validC at this
        rwa [if_pos hc] at this
      rw [RES] at hr
      have hW := walk_all columns.toNat w.heap.size (.slice none 0 0) [] t (.slice none 0 0) [] w2 (Hold.nil _ _) BC.size (fun W hW => (ht.keep BC).keep (hW.below (Nat.le_refl _) fun k hk => by rcases hk with hk | hk; cases hk; exact hk.elim)) (fun W _ => IsVals.nil W) hvt HE.out hl (by simpa using hr) (by simp; omega)
      have HRES := Lib.hid RES
      unfold trV at hW
      clear hV hE RES hr hc hvt
      go_wp2_with fail
      refine hW.mono ?_
      rintro e3 w3 ⟨u, L, rfl, HH, HL, AG, -⟩
      have B3 := AG.below (Nat.le_refl _) fun k hk => by rcases hk with hk | hk; cases hk; exact hk.elim
      go_wp2
      go_ret
      exact ⟨_, L, rfl, HH, Lib.hid (by rw [HRES.out]; exact HL.out), below_trans BC B3⟩
end Go.Proofs.YtdibijhaiaiifaaDoor
/- Tries of sorted rows: the plain mathematics, no program in sight. -/
namespace Go.Proofs.YtdibijhaiaiifaaDoor
/-- Groups of rows under one first value each. -/
abbrev Gr := Vl × List Rw
def consW (v : Vl) (x : Rw) : Rw := (v :: x.1, x.2)
def joinG (G : List Gr) : List Rw := G.flatMap fun g => g.2.map (consW g.1)
theorem joinG_cons (g : Gr) (G : List Gr) : joinG (g :: G) = g.2.map (consW g.1) ++ joinG G := by unfold joinG; rw [List.flatMap_cons]
/-- Sorted rows of n values each. -/
structure Gd (n : Nat) (F : List Rw) : Prop where
  up : Up F
  ok : ∀ x ∈ F, OkW x.2
  len : ∀ x ∈ F, x.1.length = n
def GdG (n : Nat) : List Gr → Prop
  | [] => True
  | g :: G => (∀ h ∈ G, cmpV g.1 h.1 < 0) ∧ Gd n g.2 ∧ g.2 ≠ [] ∧ GdG n G
theorem gd_nil (n : Nat) : Gd n [] := ⟨trivial, by simp, by simp⟩
theorem cmpT_cons (v u : Vl) (a b : Tp) : cmpT (v :: a) (u :: b) = if cmpV v u = 0 then cmpT a b else cmpV v u := rfl
theorem cmpT_same (v : Vl) (a b : Tp) : cmpT (v :: a) (v :: b) = cmpT a b := by rw [cmpT_cons, if_pos (cmpV_is.refl v)]
theorem cmpT_lt {v u : Vl} (a b : Tp) (h : cmpV v u < 0) : cmpT (v :: a) (u :: b) < 0 := by rw [cmpT_cons, if_neg (by omega)]; exact h
theorem cmpV_le_of {v u : Vl} {a b : Tp} (h : cmpT (v :: a) (u :: b) < 0) (hne : v ≠ u) : cmpV v u < 0 := by
  rw [cmpT_cons, if_neg fun e => hne ((cmpV_is.eq v u).1 e)] at h; exact h
theorem Gd.tail {n : Nat} {x : Rw} {F : List Rw} (h : Gd n (x :: F)) : Gd n F := ⟨h.up.2, fun y hy => h.ok y (List.mem_cons_of_mem _ hy), fun y hy => h.len y (List.mem_cons_of_mem _ hy)⟩
theorem mem_join {G : List Gr} {x : Rw} : x ∈ joinG G ↔ ∃ g ∈ G, ∃ y ∈ g.2, x = consW g.1 y := by
  unfold joinG
  simp only [List.mem_flatMap, List.mem_map]
  constructor
  · rintro ⟨g, hg, y, hy, e⟩; exact ⟨g, hg, y, hy, e.symm⟩
  · rintro ⟨g, hg, y, hy, e⟩; exact ⟨g, hg, y, hy, e.symm⟩
theorem split_gd {n : Nat} : ∀ F : List Rw, Gd (n + 1) F → ∃ G, F = joinG G ∧ GdG n G
  | [], _ => ⟨[], rfl, trivial⟩
  | x :: r, h => by
    obtain ⟨G, hr, hG⟩ := split_gd r h.tail
    obtain ⟨x1, s⟩ := x
    have hl : x1.length = n + 1 := h.len _ (List.mem_cons_self ..)
    obtain ⟨v, t, rfl⟩ : ∃ v t, x1 = v :: t := by cases x1 with | nil => simp at hl | cons v t => exact ⟨v, t, rfl⟩
    have hok : OkW s := h.ok _ (List.mem_cons_self ..)
    have htl : t.length = n := by simpa using hl
    have hup := h.up.1
    have one : Gd n [(t, s)] := ⟨⟨by simp, trivial⟩, by simpa using hok, by simpa using htl⟩
    cases G with
    | nil => exact ⟨[(v, [(t, s)])], by rw [hr]; rfl, by simp, one, by simp, trivial⟩
    | cons g G1 =>
      obtain ⟨u, g⟩ := g
      obtain ⟨h1, h2, h3, h4⟩ := hG
      by_cases e : v = u
      · subst e
        refine ⟨(v, (t, s) :: g) :: G1, by rw [hr]; rfl, h1, ⟨⟨fun y hy => ?_, h2.up⟩, fun y hy => ?_, fun y hy => ?_⟩, by simp, h4⟩
        · have := hup (consW v y) (by rw [hr]; exact mem_join.2 ⟨(v, g), List.mem_cons_self .., y, hy, rfl⟩)
          rw [← cmpT_same v]; exact this
        · rcases List.mem_cons.1 hy with rfl | hy
          · exact hok
          · exact h2.ok y hy
        · rcases List.mem_cons.1 hy with rfl | hy
          · exact htl
          · exact h2.len y hy
      · obtain ⟨y, hy⟩ := List.exists_mem_of_ne_nil _ h3
        have hlt : cmpV v u < 0 := cmpV_le_of (hup (consW u y) (by rw [hr]; exact mem_join.2 ⟨(u, g), List.mem_cons_self .., y, hy, rfl⟩)) e
        refine ⟨(v, [(t, s)]) :: (u, g) :: G1, by rw [hr]; rfl, fun z hz => ?_, one, by simp, h1, h2, h3, h4⟩
        rcases List.mem_cons.1 hz with rfl | hz
        · exact hlt
        · exact cmpV_is.trans _ _ _ hlt (h1 z hz)
theorem while_split {α : Type} {p : α → Bool} : ∀ {a b : List α}, (∀ x ∈ a, p x = true) → (∀ x ∈ b, p x = false) → (a ++ b).takeWhile p = a ∧ (a ++ b).dropWhile p = b
  | [], [], _, _ => ⟨rfl, rfl⟩
  | [], y :: b, _, h => by
    have := h y (List.mem_cons_self ..)
    rw [List.nil_append, List.takeWhile_cons, List.dropWhile_cons, this]; exact ⟨rfl, rfl⟩
  | x :: a, b, h, k => by
    obtain ⟨h1, h2⟩ := while_split (fun y hy => h y (List.mem_cons_of_mem _ hy)) k
    rw [List.cons_append, List.takeWhile_cons, List.dropWhile_cons, h x (List.mem_cons_self ..)]
    exact ⟨by simp only [if_true]; rw [h1], by simp only [if_true]; rw [h2]⟩
theorem tail_cons (v : Vl) (g : List Rw) : (g.map (consW v)).map tailW = g := by
  rw [List.map_map]
  conv => rhs; rw [← List.map_id g]
  refine List.map_congr_left fun x _ => ?_
  rfl
theorem runs_join {n : Nat} : ∀ G : List Gr, GdG n G → (runsW (joinG G)).map (fun r => (headV r, r.map tailW)) = G
  | [], _ => by show (runsW []).map _ = []; rw [runsW_nil]; rfl
  | (v, g) :: G, h => by
    obtain ⟨h1, h2, h3, h4⟩ := h
    cases g with
    | nil => exact absurd rfl h3
    | cons y g =>
      have e : joinG ((v, y :: g) :: G) = consW v y :: (g.map (consW v) ++ joinG G) := by rw [joinG_cons]; rfl
      have ha : ∀ x ∈ (y :: g).map (consW v), sameW (consW v y) x = true := fun x hx => by
        obtain ⟨z, -, rfl⟩ := List.mem_map.1 hx
        exact decide_eq_true rfl
      have hb : ∀ x ∈ joinG G, sameW (consW v y) x = false := fun x hx => by
        obtain ⟨k, hk, z, -, rfl⟩ := mem_join.1 hx
        refine decide_eq_false fun e => ?_
        have e : k.1 = v := by injection e
        have := h1 k hk
        rw [e, cmpV_is.refl] at this; omega
      obtain ⟨w1, w2⟩ := while_split ha hb
      rw [e, runsW_cons]
      rw [show consW v y :: (g.map (consW v) ++ joinG G) = (y :: g).map (consW v) ++ joinG G from rfl, w1, w2, List.map_cons, runs_join G h4, tail_cons]
      rfl
theorem build_join {n : Nat} {G : List Gr} (h : GdG n G) : buildT (n + 1) (joinG G) = .mk (G.map (·.1)) (G.map fun g => buildT n g.2) [] := by
  have e := runs_join G h
  show Tr.mk ((runsW (joinG G)).map headV) ((runsW (joinG G)).map fun run => buildT n (run.map tailW)) [] = _
  congr 1
  · conv => rhs; rw [← e, List.map_map]
    rfl
  · conv => rhs; rw [← e, List.map_map]
    rfl
theorem up_app {a b : List Rw} : Up a → Up b → (∀ x ∈ a, ∀ y ∈ b, cmpT x.1 y.1 < 0) → Up (a ++ b) := by
  induction a with
  | nil => exact fun _ h _ => h
  | cons x a ih =>
    intro ha hb h
    refine ⟨fun y hy => ?_, ih ha.2 hb fun z hz => h z (List.mem_cons_of_mem _ hz)⟩
    rcases List.mem_append.1 hy with hy | hy
    · exact ha.1 y hy
    · exact h x (List.mem_cons_self ..) y hy
theorem up_cons {v : Vl} : ∀ {g : List Rw}, Up g → Up (g.map (consW v))
  | [], _ => trivial
  | x :: g, h => ⟨fun y hy => by
      obtain ⟨z, hz, rfl⟩ := List.mem_map.1 hy
      show cmpT (v :: x.1) (v :: z.1) < 0
      rw [cmpT_same]; exact h.1 z hz, up_cons h.2⟩
theorem gd_join {n : Nat} : ∀ {G : List Gr}, GdG n G → Gd (n + 1) (joinG G)
  | [], _ => gd_nil _
  | (v, g) :: G, h => by
    obtain ⟨h1, h2, -, h4⟩ := h
    have k := gd_join h4
    rw [joinG_cons]
    refine ⟨up_app (up_cons h2.up) k.up fun x hx y hy => ?_, fun x hx => ?_, fun x hx => ?_⟩
    · obtain ⟨z, -, rfl⟩ := List.mem_map.1 hx
      obtain ⟨m, hm, y, -, rfl⟩ := mem_join.1 hy
      exact cmpT_lt _ _ (h1 m hm)
    · rcases List.mem_append.1 hx with hx | hx
      · obtain ⟨z, hz, rfl⟩ := List.mem_map.1 hx
        exact h2.ok z hz
      · exact k.ok x hx
    · rcases List.mem_append.1 hx with hx | hx
      · obtain ⟨z, hz, rfl⟩ := List.mem_map.1 hx
        show (v :: z.1).length = _
        rw [List.length_cons, h2.len z hz]
      · exact k.len x hx
theorem gdg_lt {n : Nat} : ∀ {G : List Gr} {i k : Nat} {a b : Gr}, GdG n G → G[i]? = some a → G[k]? = some b → i < k → cmpV a.1 b.1 < 0
  | [], _, _, _, _, _, h, _, _ => by simp at h
  | g :: G, 0, k + 1, a, b, h, ha, hb, _ => by
    simp only [List.getElem?_cons_zero, Option.some.injEq] at ha
    subst ha
    rw [List.getElem?_cons_succ] at hb
    exact h.1 b (List.mem_of_getElem? hb)
  | g :: G, i + 1, k + 1, a, b, h, ha, hb, hik => by
    rw [List.getElem?_cons_succ] at ha hb
    exact gdg_lt h.2.2.2 ha hb (by omega)
theorem gdg_mem {n : Nat} : ∀ {G : List Gr} {g : Gr}, GdG n G → g ∈ G → Gd n g.2 ∧ g.2 ≠ []
  | [], _, _, h => by simp at h
  | a :: G, g, h, hg => by
    rcases List.mem_cons.1 hg with rfl | hg
    · exact ⟨h.2.1, h.2.2.1⟩
    · exact gdg_mem h.2.2.2 hg
theorem join_nil {n : Nat} {G : List Gr} (h : GdG n G) : joinG G = [] ↔ G = [] := by
  constructor
  · intro e
    cases G with
    | nil => rfl
    | cons g G =>
      rw [joinG_cons] at e
      have := (List.append_eq_nil_iff.1 e).1
      rw [List.map_eq_nil_iff] at this
      exact absurd this h.2.2.1
  · rintro rfl; rfl
theorem gd_zero : ∀ {F : List Rw}, Gd 0 F → F = [] ∨ ∃ s, F = [([], s)] ∧ OkW s
  | [], _ => .inl rfl
  | [(t, s)], h => by
    have : t = [] := List.eq_nil_of_length_eq_zero (h.len _ (List.mem_cons_self ..))
    subst this
    exact .inr ⟨s, rfl, h.ok _ (List.mem_cons_self ..)⟩
  | x :: y :: r, h => by
    have h1 : x.1 = [] := List.eq_nil_of_length_eq_zero (h.len _ (List.mem_cons_self ..))
    have h2 : y.1 = [] := List.eq_nil_of_length_eq_zero (h.len _ (List.mem_cons_of_mem _ (List.mem_cons_self ..)))
    have := h.up.1 y (List.mem_cons_self ..)
    rw [h1, h2, cmpT_is.refl] at this; omega
theorem build_zero_one (s : List Sp) : buildT 0 [([], s)] = .mk [] [] s := rfl
theorem build_nil : ∀ n : Nat, buildT n [] = .mk [] [] []
  | 0 => rfl
  | n + 1 => by unfold buildT; rw [runsW_nil]; rfl
theorem build_empty : ∀ {n : Nat} {F : List Rw}, Gd n F → emptyB (buildT n F) = decide (F = [])
  | 0, F, h => by
    rcases gd_zero h with rfl | ⟨s, rfl, hs⟩
    · rfl
    · rw [build_zero_one]
      unfold emptyB
      rw [decide_eq_decide]
      have : s.length ≠ 0 := fun e => hs.1 (List.eq_nil_of_length_eq_zero e)
      simp [Tr.vs, Tr.s, hs.1]
  | n + 1, F, h => by
    obtain ⟨G, rfl, hG⟩ := split_gd F h
    rw [build_join hG]
    unfold emptyB
    rw [decide_eq_decide, join_nil hG]
    simp [Tr.vs, Tr.s]
theorem build_valid : ∀ {n : Nat} {F : List Rw}, Gd n F → validT n (buildT n F) = true
  | 0, F, h => by
    rcases gd_zero h with rfl | ⟨s, rfl, hs⟩
    · decide
    · rw [build_zero_one]
      unfold validT
      simp [Tr.vs, Tr.ks, Tr.s, hs.2]
  | n + 1, F, h => by
    obtain ⟨G, rfl, hG⟩ := split_gd F h
    rw [build_join hG]
    refine validT_good rfl (by simp [Tr.vs, Tr.ks]) fun j hj => ?_
    have hj : j < G.length := by simpa [Tr.ks] using hj
    obtain ⟨g, hg⟩ : ∃ g, G[j]? = some g := ⟨_, List.getElem?_eq_getElem hj⟩
    obtain ⟨k1, k2⟩ := gdg_mem hG (List.mem_of_getElem? hg)
    unfold okK
    rw [Bool.and_eq_true]
    constructor
    · unfold incAt
      rw [Bool.or_eq_true]
      by_cases e : j = 0
      · exact .inl (decide_eq_true e)
      · right
        obtain ⟨a, ha⟩ : ∃ a, G[j - 1]? = some a := ⟨_, List.getElem?_eq_getElem (by omega)⟩
        show (match (G.map (·.1))[j - 1]?, (G.map (·.1))[j]? with | some a, some b => decide (cmpV a b < 0) | _, _ => true) = true
        rw [List.getElem?_map, List.getElem?_map, ha, hg]
        exact decide_eq_true (gdg_lt hG ha hg (by omega))
    · show (match (G.map fun g => buildT n g.2)[j]? with | some k => !emptyB k && validT n k | none => true) = true
      rw [List.getElem?_map, hg]
      show (!emptyB (buildT n g.2) && validT n (buildT n g.2)) = true
      rw [build_empty k1, build_valid k1, decide_eq_false k2]; rfl
theorem walk_join {n : Nat} {p : Tp} (ih : ∀ {F : List Rw} (p : Tp), Gd n F → F ≠ [] → walkL n p (buildT n F) = F.map fun x => (p ++ x.1, x.2)) : ∀ {G : List Gr}, GdG n G → ((G.map (·.1)).zip (G.map fun g => buildT n g.2)).flatMap (fun q => walkL n (p ++ [q.1]) q.2) = (joinG G).map fun x => (p ++ x.1, x.2)
  | [], _ => rfl
  | (v, g) :: G, h => by
    rw [List.map_cons, List.map_cons, List.zip_cons_cons, List.flatMap_cons, walk_join ih h.2.2.2, joinG_cons, List.map_append, ih (p ++ [v]) h.2.1 h.2.2.1]
    congr 1
    rw [List.map_map]
    refine List.map_congr_left fun x _ => ?_
    show (p ++ [v] ++ x.1, x.2) = (p ++ v :: x.1, x.2)
    rw [List.append_assoc]; rfl
theorem walk_build : ∀ {n : Nat} {F : List Rw} (p : Tp), Gd n F → F ≠ [] → walkL n p (buildT n F) = F.map fun x => (p ++ x.1, x.2)
  | 0, F, p, h, hne => by
    rcases gd_zero h with rfl | ⟨s, rfl, hs⟩
    · exact absurd rfl hne
    · show [(p, s)] = [(p ++ [], s)]
      rw [List.append_nil]
  | n + 1, F, p, h, _ => by
    obtain ⟨G, rfl, hG⟩ := split_gd F h
    rw [build_join hG]
    exact walk_join (fun p h k => walk_build p h k) hG
theorem map_nil_app (F : List Rw) : (F.map fun x => (([] : Tp) ++ x.1, x.2)) = F := by
  conv => rhs; rw [← List.map_id F]
  exact List.map_congr_left fun x _ => rfl
theorem rows_build {columns : Int} {F : List Rw} (h0 : 0 ≤ columns) (h4 : columns ≤ 4) (h : Gd columns.toNat F) : rowsT columns (buildT columns.toNat F) = F := by
  have hv : validC columns (buildT columns.toNat F) = true := by unfold validC; rw [if_pos ⟨h0, h4⟩, build_valid h]
  unfold rowsT
  rw [hv, build_empty h]
  by_cases e : F = []
  · subst e; rfl
  · rw [decide_eq_false e]
    rw [if_pos (show (true && !false) = true from rfl), walk_build [] h e, map_nil_app]
theorem valid_groups {n : Nat} (ih : ∀ {t : Tr}, validT n t = true → ∃ F, Gd n F ∧ t = buildT n F) : ∀ (vs : List Vl) (ks : List Tr), ks.length = vs.length → (∀ j, j < ks.length → okK (validT n) vs ks j = true) → ∃ G, GdG n G ∧ vs = G.map (·.1) ∧ ks = G.map fun g => buildT n g.2
  | [], [], _, _ => ⟨[], trivial, rfl, rfl⟩
  | [], _ :: _, h, _ => by simp at h
  | _ :: _, [], h, _ => by simp at h
  | v :: vs, k :: ks, h, hok => by
    have next : ∀ j, j < ks.length → okK (validT n) vs ks j = true := fun j hj => by
      have := hok (j + 1) (by simp; omega)
      unfold okK at this ⊢
      rw [Bool.and_eq_true] at this ⊢
      refine ⟨?_, by simpa using this.2⟩
      have h1 := this.1
      unfold incAt at h1 ⊢
      by_cases e : j = 0
      · rw [decide_eq_true e]; rfl
      · rw [decide_eq_false e, Bool.false_or]
        rw [decide_eq_false (by omega), Bool.false_or] at h1
        obtain ⟨m, rfl⟩ : ∃ m, j = m + 1 := ⟨j - 1, by omega⟩
        simpa using h1
    obtain ⟨G, hG, e1, e2⟩ := valid_groups ih vs ks (by simpa using h) next
    have h0 := hok 0 (by simp)
    unfold okK at h0
    rw [Bool.and_eq_true] at h0
    have h0 : (!emptyB k && validT n k) = true := h0.2
    rw [Bool.and_eq_true, Bool.not_eq_true'] at h0
    obtain ⟨F, hF, rfl⟩ := ih h0.2
    refine ⟨(v, F) :: G, ⟨?_, hF, fun e => ?_, hG⟩, by rw [e1]; rfl, by rw [e2]; rfl⟩
    · intro g hg
      cases G with
      | nil => simp at hg
      | cons a G =>
        have hlt : cmpV v a.1 < 0 := by
          have := hok 1 (by rw [e2]; simp)
          unfold okK at this
          rw [Bool.and_eq_true] at this
          have := this.1
          unfold incAt at this
          rw [decide_eq_false (by omega), Bool.false_or, e1] at this
          simpa using this
        rcases List.mem_cons.1 hg with rfl | hg
        · exact hlt
        · exact cmpV_is.trans _ _ _ hlt (hG.1 g hg)
    · subst e
      rw [build_empty hF] at h0
      simp at h0
theorem valid_gd : ∀ {n : Nat} {t : Tr}, validT n t = true → ∃ F, Gd n F ∧ t = buildT n F
  | 0, t, h => by
    unfold validT at h
    rw [Bool.and_eq_true, decide_eq_true_iff, decide_eq_true_iff] at h
    have h1 : t.vs = [] := List.eq_nil_of_length_eq_zero (by omega)
    have h2 : t.ks = [] := List.eq_nil_of_length_eq_zero (by omega)
    by_cases e : t.s = []
    · exact ⟨[], gd_nil 0, by rw [Tr.eta t, h1, h2, e]; rfl⟩
    · refine ⟨[([], t.s)], ⟨⟨by simp, trivial⟩, by simpa using ⟨e, h.2.symm⟩, by simp⟩, ?_⟩
      have := Tr.eta t
      rw [h1, h2] at this
      exact this
  | n + 1, t, h => by
    obtain ⟨h1, h2, h3⟩ := validT_parts h
    obtain ⟨G, hG, e1, e2⟩ := valid_groups (fun {t} h => valid_gd h) t.vs t.ks h2 h3
    refine ⟨joinG G, gd_join hG, ?_⟩
    rw [build_join hG, ← e1, ← e2, Tr.eta t, List.eq_nil_of_length_eq_zero h1]
    rfl
theorem build_inj {n : Nat} {F F' : List Rw} (h : Gd n F) (h' : Gd n F') (e : buildT n F = buildT n F') : F = F' := by
  have e1 := build_empty h
  rw [e, build_empty h', decide_eq_decide] at e1
  by_cases k : F = []
  · rw [k, e1.2 k]
  · have w := walk_build [] h k
    rw [e, walk_build [] h' fun q => k (e1.1 q), map_nil_app, map_nil_app] at w
    exact w.symm
/-! ### sizes -/
theorem len_join : ∀ {n : Nat} {G : List Gr}, GdG n G → G.length ≤ (joinG G).length ∧ ∀ g ∈ G, g.2.length ≤ (joinG G).length
  | _, [], _ => ⟨Nat.le_refl _, by simp⟩
  | n, (v, g) :: G, h => by
    obtain ⟨h1, h2⟩ := len_join h.2.2.2
    have h3 : 0 < g.length := List.length_pos_iff.2 h.2.2.1
    rw [joinG_cons, List.length_append, List.length_map, List.length_cons]
    refine ⟨by show _ ≤ g.length + _; omega, fun k hk => ?_⟩
    rcases List.mem_cons.1 hk with rfl | hk
    · show g.length ≤ g.length + _; omega
    · have := h2 k hk
      show _ ≤ g.length + _; omega
theorem okW_len {s : List Sp} (h : OkW s) : s.length ≤ 32 := by rw [← h.2]; exact canon_le _
theorem lim_build : ∀ {n : Nat} {F : List Rw}, Gd n F → F.length ≤ 10000 → Lim (buildT n F)
  | 0, F, h, hl => by
    rcases gd_zero h with rfl | ⟨s, rfl, hs⟩
    · exact .mk _ (by decide) (by intro k hk; cases hk)
    · rw [build_zero_one]
      have := okW_len hs
      exact .mk _ (by simp [Tr.vs, Tr.ks, Tr.s]; omega) (by intro k hk; cases hk)
  | n + 1, F, h, hl => by
    obtain ⟨G, rfl, hG⟩ := split_gd F h
    obtain ⟨h1, h2⟩ := len_join hG
    rw [build_join hG]
    refine .mk _ (by simp [Tr.vs, Tr.ks, Tr.s]; omega) fun k hk => ?_
    obtain ⟨g, hg, rfl⟩ := List.mem_map.1 (show k ∈ G.map fun g => buildT n g.2 from hk)
    exact lim_build (gdg_mem hG hg).1 (Nat.le_trans (h2 g hg) hl)
theorem sq_build : ∀ {n : Nat} {F : List Rw}, Gd n F → F.length ≤ 10000 → Sq (buildT n F)
  | 0, F, h, hl => by
    rcases gd_zero h with rfl | ⟨s, rfl, hs⟩
    · exact .mk _ (by decide) rfl (by intro k hk; cases hk)
    · exact .mk _ (by simp [build_zero_one, Tr.vs]) rfl (by intro k hk; cases hk)
  | n + 1, F, h, hl => by
    obtain ⟨G, rfl, hG⟩ := split_gd F h
    obtain ⟨h1, h2⟩ := len_join hG
    rw [build_join hG]
    refine .mk _ (by simp [Tr.vs]; omega) (by simp [Tr.vs, Tr.ks]) fun k hk => ?_
    obtain ⟨g, hg, rfl⟩ := List.mem_map.1 (show k ∈ G.map fun g => buildT n g.2 from hk)
    exact sq_build (gdg_mem hG hg).1 (Nat.le_trans (h2 g hg) hl)
/-! ### searching -/
def IncV (vs : List Vl) : Prop := ∀ (i k : Nat) (a b : Vl), vs[i]? = some a → vs[k]? = some b → i < k → cmpV a b < 0
theorem incV_nil : IncV [] := fun i k a b h => by simp at h
theorem incV_build {n : Nat} {F : List Rw} (h : Gd n F) : IncV (buildT n F).vs := by
  cases n with
  | zero => exact incV_nil
  | succ n =>
    obtain ⟨G, rfl, hG⟩ := split_gd F h
    rw [build_join hG]
    intro i k a b ha hb hik
    have ha : (G.map (·.1))[i]? = some a := ha
    have hb : (G.map (·.1))[k]? = some b := hb
    rw [List.getElem?_map] at ha hb
    obtain ⟨g, hg, rfl⟩ := Option.map_eq_some_iff.1 ha
    obtain ⟨m, hm, rfl⟩ := Option.map_eq_some_iff.1 hb
    exact gdg_lt hG hg hm hik
theorem seekP_at {vs : List Vl} {y x : Vl} {i : Nat} (h : vs[i]? = some x) : seekP vs y i = decide (0 ≤ cmpV x y) := by unfold seekP; rw [h]; rfl
theorem srch_at {vs : List Vl} {y : Vl} {r : Nat} (h : IncV vs) (hr : SrchOf (seekP vs y) vs.length r) {i : Nat} {x : Vl} (hx : vs[i]? = some x) : cmpV x y < 0 ↔ i < r := by
  obtain ⟨h1, h2, h3⟩ := hr
  have hi : i < vs.length := (List.getElem?_eq_some_iff.1 hx).1
  constructor
  · intro hlt
    by_cases q : i < r
    · exact q
    · exfalso
      obtain ⟨z, hz⟩ : ∃ z, vs[r]? = some z := ⟨_, List.getElem?_eq_getElem (by omega)⟩
      have := h3 (by omega)
      rw [seekP_at hz, decide_eq_true_iff] at this
      by_cases e : r = i
      · subst e
        rw [hz] at hx
        injection hx with hx
        subst hx; omega
      · have k := cmpV_is.trans _ _ _ (h r i z x hz hx (by omega)) hlt
        omega
  · intro q
    obtain ⟨k, rfl⟩ : ∃ k, r = k + 1 := ⟨r - 1, by omega⟩
    obtain ⟨z, hz⟩ : ∃ z, vs[k]? = some z := ⟨_, List.getElem?_eq_getElem (by omega)⟩
    have := h2 k rfl
    rw [seekP_at hz, decide_eq_false_iff_not] at this
    by_cases e : i = k
    · subst e
      rw [hz] at hx
      injection hx with hx
      subst hx; omega
    · exact cmpV_is.trans _ _ _ (h i k x z hx hz (by omega)) (by omega)
/-- The index that Seek returns. -/
def seekN : List Vl → Vl → Nat
  | [], _ => 0
  | x :: vs, y => if cmpV x y < 0 then seekN vs y + 1 else 0
theorem seekN_le : ∀ (vs : List Vl) (y : Vl), seekN vs y ≤ vs.length
  | [], _ => Nat.le_refl _
  | x :: vs, y => by
    have := seekN_le vs y
    unfold seekN
    split
    · simp; omega
    · omega
theorem seekN_before : ∀ {vs : List Vl} {y x : Vl} {i : Nat}, i < seekN vs y → vs[i]? = some x → cmpV x y < 0
  | [], y, x, i, h, _ => by simp [seekN] at h
  | z :: vs, y, x, i, h, hx => by
    unfold seekN at h
    split at h
    · rename_i hz
      cases i with
      | zero => simp at hx; subst hx; exact hz
      | succ i => exact seekN_before (vs := vs) (Nat.lt_of_succ_lt_succ h) (by simpa using hx)
    · omega
theorem seekN_stop : ∀ {vs : List Vl} {y x : Vl}, vs[seekN vs y]? = some x → ¬ cmpV x y < 0
  | [], y, x, h => by simp at h
  | z :: vs, y, x, h => by
    unfold seekN at h
    split at h
    · exact seekN_stop (vs := vs) (by simpa using h)
    · simp at h; subst h; assumption
theorem srch_eq {vs : List Vl} {y : Vl} {r : Nat} (h : IncV vs) (hr : SrchOf (seekP vs y) vs.length r) : r = seekN vs y := by
  have h1 := seekN_le vs y
  have h2 := hr.1
  rcases Nat.lt_trichotomy r (seekN vs y) with q | q | q
  · obtain ⟨z, hz⟩ : ∃ z, vs[r]? = some z := ⟨_, List.getElem?_eq_getElem (by omega)⟩
    have := (srch_at h hr hz).1 (seekN_before q hz)
    omega
  · exact q
  · obtain ⟨z, hz⟩ : ∃ z, vs[seekN vs y]? = some z := ⟨_, List.getElem?_eq_getElem (by omega)⟩
    exact absurd ((srch_at h hr hz).2 q) (seekN_stop hz)
theorem seekN_at {vs : List Vl} {y : Vl} (h : IncV vs) {i : Nat} {x : Vl} (hx : vs[i]? = some x) : cmpV x y < 0 ↔ i < seekN vs y := by
  refine srch_at h ⟨seekN_le _ _, fun k e => ?_, fun hl => ?_⟩ hx
  · have hl := seekN_le vs y
    obtain ⟨z, hz⟩ : ∃ z, vs[k]? = some z := ⟨_, List.getElem?_eq_getElem (by omega)⟩
    rw [seekP_at hz, decide_eq_false_iff_not]
    have := seekN_before (show k < seekN vs y by omega) hz
    omega
  · obtain ⟨z, hz⟩ : ∃ z, vs[seekN vs y]? = some z := ⟨_, List.getElem?_eq_getElem hl⟩
    rw [seekP_at hz, decide_eq_true_iff]
    have := seekN_stop hz
    omega
theorem seekN_mono {vs : List Vl} {y z : Vl} (h : IncV vs) (hyz : cmpV y z ≤ 0) : seekN vs y ≤ seekN vs z := by
  rcases Nat.lt_or_ge (seekN vs z) (seekN vs y) with q | q
  · have hl := seekN_le vs y
    obtain ⟨x, hx⟩ : ∃ x, vs[seekN vs z]? = some x := ⟨_, List.getElem?_eq_getElem (by omega)⟩
    have := cmpV_is.lt_le ((seekN_at h hx).2 q) hyz
    exact absurd this (seekN_stop hx)
  · exact q
theorem seekN_hit {vs : List Vl} {y : Vl} (h : IncV vs) {i : Nat} (hx : vs[i]? = some y) : seekN vs y = i := by
  rcases Nat.lt_trichotomy (seekN vs y) i with q | q | q
  · obtain ⟨z, hz⟩ : ∃ z, vs[seekN vs y]? = some z := ⟨_, List.getElem?_eq_getElem (by have := (List.getElem?_eq_some_iff.1 hx).1; omega)⟩
    exact absurd (h _ _ z y hz hx q) (seekN_stop hz)
  · exact q
  · have := (seekN_at h hx).2 q
    rw [cmpV_is.refl] at this; omega
theorem seekN_mem {vs : List Vl} {y : Vl} (h : IncV vs) : y ∈ vs ↔ vs[seekN vs y]? = some y := by
  constructor
  · intro hm
    obtain ⟨i, hi⟩ := List.mem_iff_getElem?.1 hm
    rw [seekN_hit h hi]; exact hi
  · exact List.mem_of_getElem?
/-! ### subtries -/
/-- The rows that begin with a value, without it. -/
def under (v : Vl) (F : List Rw) : List Rw := (F.filter fun x => decide (fst? x.1 = some v)).map tailW
def subB : Nat → List Rw → List Vl → Option (Nat × List Rw)
  | n, F, [] => some (n, F)
  | 0, _, _ :: _ => none
  | n + 1, F, v :: p => if under v F = [] then none else subB n (under v F) p
theorem subB_succ (n : Nat) (F : List Rw) (v : Vl) (p : List Vl) : subB (n + 1) F (v :: p) = if under v F = [] then none else subB n (under v F) p := rfl
theorem under_app (v : Vl) (a b : List Rw) : under v (a ++ b) = under v a ++ under v b := by unfold under; rw [List.filter_append, List.map_append]
theorem under_same (v : Vl) (g : List Rw) : under v (g.map (consW v)) = g := by
  unfold under
  rw [List.filter_eq_self.2, tail_cons]
  intro x hx
  obtain ⟨z, -, rfl⟩ := List.mem_map.1 hx
  exact decide_eq_true rfl
theorem under_none {v : Vl} {F : List Rw} (h : ∀ x ∈ F, fst? x.1 ≠ some v) : under v F = [] := by
  unfold under
  rw [List.filter_eq_nil_iff.2, List.map_nil]
  intro x hx
  simpa using h x hx
theorem under_ne {v u : Vl} (g : List Rw) (h : u ≠ v) : under v (g.map (consW u)) = [] := under_none fun x hx => by
  obtain ⟨z, -, rfl⟩ := List.mem_map.1 hx
  exact fun e => h (by injection e)
theorem under_no : ∀ {G : List Gr} {v : Vl}, (∀ g ∈ G, g.1 ≠ v) → under v (joinG G) = []
  | [], _, _ => rfl
  | g :: G, v, h => by
    rw [joinG_cons, under_app, under_ne _ (h g (List.mem_cons_self ..)), under_no fun k hk => h k (List.mem_cons_of_mem _ hk)]; rfl
theorem under_at {n : Nat} : ∀ {G : List Gr} {g : Gr}, GdG n G → g ∈ G → under g.1 (joinG G) = g.2
  | [], _, _, h => by simp at h
  | a :: G, g, h, hg => by
    rw [joinG_cons, under_app]
    rcases List.mem_cons.1 hg with rfl | hg
    · rw [under_same, under_no, List.append_nil]
      intro k hk e
      have := h.1 k hk
      rw [e, cmpV_is.refl] at this; omega
    · rw [under_ne, under_at h.2.2.2 hg]; rfl
      intro e
      have := h.1 g hg
      rw [e, cmpV_is.refl] at this; omega
theorem under_gd {n : Nat} {F : List Rw} (h : Gd (n + 1) F) (v : Vl) : Gd n (under v F) := by
  obtain ⟨G, rfl, hG⟩ := split_gd F h
  by_cases e : ∃ g ∈ G, g.1 = v
  · obtain ⟨g, hg, rfl⟩ := e
    rw [under_at hG hg]; exact (gdg_mem hG hg).1
  · rw [under_no fun g hg q => e ⟨g, hg, q⟩]; exact gd_nil n
theorem sub_is : ∀ {p : List Vl} {n : Nat} {F : List Rw} {r : Option Tr}, Gd n F → SubI p (buildT n F) r → r = (subB n F p).map fun q => buildT q.1 q.2
  | [], n, F, r, _, h => by cases n <;> exact h
  | v :: p, 0, F, r, h, hs => by
    obtain ⟨i, -, hs⟩ := hs
    rcases hs with ⟨-, hr⟩ | ⟨k, hk, -⟩
    · exact hr
    · rcases gd_zero h with rfl | ⟨s, rfl, -⟩ <;> exact absurd hk (by simp [buildT, Tr.vs])
  | v :: p, n + 1, F, r, h, hs => by
    obtain ⟨G, rfl, hG⟩ := split_gd F h
    obtain ⟨i, hi, hs⟩ := hs
    have hinc := incV_build h
    have hv : (buildT (n + 1) (joinG G)).vs = G.map (·.1) := by rw [build_join hG]; rfl
    have hk : (buildT (n + 1) (joinG G)).ks = G.map fun g => buildT n g.2 := by rw [build_join hG]; rfl
    have hi := srch_eq hinc hi
    unfold subB
    rcases hs with ⟨h1, hr⟩ | ⟨k, h1, h2, h3⟩
    · have hno : under v (joinG G) = [] := under_no fun g hg e => h1 (by
        rw [hi, ← seekN_mem hinc, hv, ← e]
        exact List.mem_map_of_mem hg)
      rw [if_pos hno, hr]; rfl
    · rw [hv, List.getElem?_map] at h1
      obtain ⟨g, hg, rfl⟩ := Option.map_eq_some_iff.1 h1
      rw [hk, List.getElem?_map, hg] at h2
      obtain rfl : buildT n g.2 = k := by simpa using h2
      have hm := List.mem_of_getElem? hg
      rw [under_at hG hm, if_neg (gdg_mem hG hm).2]
      exact sub_is (gdg_mem hG hm).1 h3
theorem subB_app : ∀ (p q : List Vl) (n : Nat) (F : List Rw), subB n F (p ++ q) = (subB n F p).bind fun r => subB r.1 r.2 q
  | [], q, n, F => by cases n <;> rfl
  | v :: p, q, 0, F => rfl
  | v :: p, q, n + 1, F => by
    rw [List.cons_append, subB_succ, subB_succ]
    split
    · rfl
    · exact subB_app p q n _
def begins (p : List Vl) (t : Tp) : Bool := decide (t.take p.length = p)
def cutW (k : Nat) (x : Rw) : Rw := (x.1.drop k, x.2)
/-- What is known of a beginning's rows. -/
theorem subB_rows : ∀ {p : List Vl} {n : Nat} {F : List Rw}, Gd n F → p.length ≤ n → (∀ m F', subB n F p = some (m, F') → m = n - p.length ∧ Gd m F' ∧ F' = (F.filter fun x => begins p x.1).map (cutW p.length) ∧ (p ≠ [] → F' ≠ [])) ∧ (subB n F p = none → (F.filter fun x => begins p x.1) = [])
  | [], n, F, h, _ => by
    have e : subB n F [] = some (n, F) := by cases n <;> rfl
    rw [e]
    refine ⟨fun m F' h' => ?_, by simp⟩
    obtain ⟨rfl, rfl⟩ : n = m ∧ F = F' := by simpa using h'
    refine ⟨by simp, h, ?_, by simp⟩
    rw [List.filter_eq_self.2 fun x _ => by simp [begins]]
    conv => lhs; rw [← List.map_id F]
    exact List.map_congr_left fun x _ => rfl
  | v :: p, 0, F, _, hl => by simp at hl
  | v :: p, n + 1, F, h, hl => by
    have hu := under_gd h v
    obtain ⟨h1, h2⟩ := subB_rows hu (by simpa using hl : p.length ≤ n)
    have hb : ∀ x ∈ F, begins (v :: p) x.1 = (decide (fst? x.1 = some v) && begins p (x.1.drop 1)) := fun x hx => by
      have := h.len x hx
      obtain ⟨t, s⟩ := x
      cases t with
      | nil => simp at this
      | cons u t =>
        unfold begins fst?
        rw [← Bool.decide_and, decide_eq_decide]
        simp
    have e : (F.filter fun x => begins (v :: p) x.1) = ((F.filter fun x => decide (fst? x.1 = some v)).filter fun x => begins p (x.1.drop 1)) := by
      rw [List.filter_filter]
      refine List.filter_congr fun x hx => ?_
      rw [hb x hx, Bool.and_comm]
    have e2 : ((under v F).filter fun x => begins p x.1) = (F.filter fun x => begins (v :: p) x.1).map tailW := by
      rw [e]; unfold under
      rw [List.filter_map]; rfl
    constructor
    · intro m F' hs
      unfold subB at hs
      split at hs
      · cases hs
      · rename_i hne
        obtain ⟨a, b, c, d⟩ := h1 m F' hs
        refine ⟨by rw [a]; simp, b, ?_, fun _ => ?_⟩
        · rw [c, e2, List.map_map]
          refine List.map_congr_left fun x _ => ?_
          show (List.drop p.length (List.drop 1 x.1), x.2) = (List.drop (v :: p).length x.1, x.2)
          rw [List.drop_drop, List.length_cons, Nat.add_comm]
        · by_cases hp : p = []
          · subst hp
            have : subB n (under v F) [] = some (n, under v F) := by cases n <;> rfl
            rw [this] at hs
            obtain ⟨-, rfl⟩ : n = m ∧ under v F = F' := by simpa using hs
            exact hne
          · exact d hp
    · intro hs
      unfold subB at hs
      split at hs
      · rename_i hne
        have : (F.filter fun x => begins (v :: p) x.1).map tailW = [] := by rw [← e2, hne]; rfl
        exact List.map_eq_nil_iff.1 this
      · have := h2 hs
        rw [e2] at this
        exact List.map_eq_nil_iff.1 this
/-! ### equality -/
def sameT : Nat → Tr → Tr → Bool
  | 0, a, b => decide (a.vs = b.vs) && decide (a.s = b.s) && decide (a.ks.length = 0) && decide (b.ks.length = 0)
  | d + 1, a, b => decide (a.vs = b.vs) && decide (a.s = b.s) && decide (a.ks.length = b.ks.length) && (a.ks.zip b.ks).all fun p => sameT d p.1 p.2
theorem sameT_eq : ∀ {d : Nat} {a b : Tr}, sameT d a b = true → a = b
  | 0, a, b, h => by
    unfold sameT at h
    simp only [Bool.and_eq_true, decide_eq_true_iff] at h
    rw [Tr.eta a, Tr.eta b, h.1.1.1, h.1.1.2, List.eq_nil_of_length_eq_zero h.1.2, List.eq_nil_of_length_eq_zero h.2]
  | d + 1, a, b, h => by
    unfold sameT at h
    simp only [Bool.and_eq_true, decide_eq_true_iff, List.all_eq_true] at h
    have : a.ks = b.ks := List.ext_getElem? fun i => by
      by_cases hi : i < a.ks.length
      · have hz : (a.ks.zip b.ks)[i]? = some (a.ks[i], b.ks[i]'(by omega)) := by
          rw [List.getElem?_zip_eq_some]
          exact ⟨List.getElem?_eq_getElem _, List.getElem?_eq_getElem _⟩
        have := sameT_eq (h.2 _ (List.mem_of_getElem? hz))
        rw [List.getElem?_eq_getElem hi, List.getElem?_eq_getElem (by omega)]
        exact congrArg some this
      · rw [List.getElem?_eq_none (by omega), List.getElem?_eq_none (by omega)]
    rw [Tr.eta a, Tr.eta b, h.1.1.1, h.1.1.2, this]
theorem sameT_refl : ∀ {d n : Nat} {F : List Rw}, Gd n F → n ≤ d → sameT d (buildT n F) (buildT n F) = true
  | d, 0, F, h, _ => by
    rcases gd_zero h with rfl | ⟨s, rfl, -⟩ <;> cases d <;> simp [sameT, build_zero_one, build_nil, Tr.vs, Tr.ks, Tr.s]
  | 0, n + 1, F, h, hd => by omega
  | d + 1, n + 1, F, h, hd => by
    obtain ⟨G, rfl, hG⟩ := split_gd F h
    rw [build_join hG]
    unfold sameT
    simp only [Bool.and_eq_true, decide_eq_true_iff, List.all_eq_true]
    refine ⟨⟨⟨trivial, trivial⟩, trivial⟩, fun p hp => ?_⟩
    have hp : p ∈ (G.map fun g => buildT n g.2).zip (G.map fun g => buildT n g.2) := hp
    rw [List.zip_map', List.mem_map] at hp
    obtain ⟨g, hg, rfl⟩ := hp
    exact sameT_refl (gdg_mem hG hg).1 (by omega)
theorem same_build {d n : Nat} {F : List Rw} {b : Tr} (h : Gd n F) (hn : n ≤ d) : sameT d (buildT n F) b = true ↔ buildT n F = b := by
  constructor
  · exact sameT_eq
  · intro e
    rw [← e]
    exact sameT_refl h hn
end Go.Proofs.YtdibijhaiaiifaaDoor
