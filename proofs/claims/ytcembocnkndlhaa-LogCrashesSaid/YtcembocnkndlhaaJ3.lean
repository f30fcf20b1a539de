/- Parts Rg, Ri, Vb, Told, LogMath, Get, Kb, Ki, Kj, LogLaws, Kc, Kd, Ke: words, walks and laws that the claims of this seat share. -/
import Derived.Test.YtcembocnkndlhaaJ2
import Derived.Test.YtcembocnkndlhaaJ1
import Derived.WalkSpells
import Derived.Lib.AppendZerosOnto
import Derived.Lib.AppendStr
import Derived.Stop.RegionWithIn
import Derived.Maps.OwnIn
/- Writes that the reference gathers. -/
namespace Go.Proofs.Ytcembocnkndlhaa
open Go.RowKit
def OwnW (w : World) (base : Nat) (v : Value) (L : List Wt) : Prop :=
  ∃ ps : List (Int × Value), w.ownsRow base 49 2 v L.length (ps.flatMap encW) ∧ ps.length = L.length ∧ ∀ (i : Nat) (p : Int × Value) (x : Wt), ps[i]? = some p → L[i]? = some x → p.1 = x.at_ ∧ OwnB w base p.2 x.data
theorem OwnW.nil (w : World) (base : Nat) : OwnW w base (.slice none 0 0) [] := ⟨[], World.ownsRow_nil _ _ _ _, rfl, by simp⟩
theorem OwnW.keep {w w' : World} {base : Nat} {v : Value} {L : List Wt} (h : OwnW w base v L) (hb : Below w.heap.size w w') : OwnW w' base v L := by
  obtain ⟨ps, h1, h2, h3⟩ := h
  exact ⟨ps, own_keep h1 hb, h2, fun i p x hp hx => ⟨(h3 i p x hp hx).1, (h3 i p x hp hx).2.keep hb⟩⟩
theorem OwnB.store {w : World} {base : Nat} {u : Value} {l : List UInt8} (h : OwnB w base u l) {p : Addr} (hp : p.block < base) (x : Value) : OwnB (w.setCell p x) base u l := ⟨own_store h.1 hp x, h.2⟩
theorem OwnW.store {w : World} {base : Nat} {v : Value} {L : List Wt} (h : OwnW w base v L) {p : Addr} (hp : p.block < base) (u : Value) : OwnW (w.setCell p u) base v L := by
  obtain ⟨ps, h1, h2, h3⟩ := h
  exact ⟨ps, own_store h1 hp u, h2, fun i p' x hp' hx => ⟨(h3 i p' x hp' hx).1, (h3 i p' x hp' hx).2.store hp u⟩⟩
theorem OwnR.store {w : World} {base : Nat} {v : Value} {L : List (List UInt8)} (h : OwnR w base v L) {p : Addr} (hp : p.block < base) (u : Value) : OwnR (w.setCell p u) base v L := by
  obtain ⟨us, h1, h2, h3, h4⟩ := h
  exact ⟨us, own_store h1 hp u, h2, fun i x l hx hl => ⟨(h3 i x l hx hl).1.store hp u, (h3 i x l hx hl).2⟩, h4⟩
theorem OwnW.is {w : World} {base : Nat} {v : Value} {L : List Wt} (h : OwnW w base v L) (hm : L.length ≤ 9223372036854775807) (hl : ∀ x ∈ L, x.data.length ≤ 9223372036854775807) : IsWrites w v L := by
  obtain ⟨ps, h1, h2, h3⟩ := h
  rw [← h2] at h1 hm
  exact ⟨ps, IsRows.of_owns h1 (fun _ _ => rfl) hm, h2, fun i p x hp hx => ⟨(h3 i p x hp hx).1, (h3 i p x hp hx).2.is (hl x (List.mem_of_getElem? hx))⟩⟩
theorem OwnW.len {w : World} {base : Nat} {v : Value} {L : List Wt} (h : OwnW w base v L) : ∃ a c, v = .slice a L.length c ∧ L.length ≤ c ∧ c ≤ 9223372036854775807 := by
  obtain ⟨us, ⟨_, h1⟩, _⟩ := h
  rcases h1 with ⟨rfl, h0⟩ | ⟨g, cap, cur, rfl, _, _, h5, h6, _⟩
  · exact ⟨none, 0, by rw [h0], by omega, by omega⟩
  · exact ⟨_, _, rfl, h5, by unfold maxLen at h6; omega⟩
theorem OwnB.kept {w w' : World} {base : Nat} {u : Value} {l : List UInt8} {row : Option Nat} (h : OwnB w base u l) (hg : w.grownBy w' row) (hne : ∀ b (cs : Array Value), w.heap[b]? = some (.cells cs 5 (0, 0)) → some b ≠ row) : OwnB w' base u l := by
  obtain ⟨g, cap, cur, rfl, _, k2, _⟩ := h.form
  exact ⟨h.1.kept hg (.inr (hne g cur k2)), h.2⟩
theorem box3_set1 {w : World} {g : Nat} {a b c x : Value} {t : TypeId} (h : w.heap[g]? = some (.cells #[a, b, c] t (0, 0))) : (w.setCell ⟨g, 1, none⟩ x).heap[g]? = some (.cells #[a, x, c] t (0, 0)) := by
  simp [World.setCell, Array.getElem?_modify, h]
/-- A write more. -/
theorem run_pushW {wr w : World} {base : Nat} {v : Value} {L : List Wt} {u : Value} {g1 : Nat} {x : Wt} {ty : TypeId} (hO : OwnW wr base v L) (hb : Below wr.heap.size wr w) (hu : OwnB w wr.heap.size u x.data) (hbase : base ≤ wr.heap.size)
    (hblk : w.heap[g1]? = some (.cells #[.int .i64 x.at_, u] 49 (0, 0))) (hL : L.length ≤ 1000000000) :
    ∃ g cap w', (Builtin.append_ #[23, 23] ty #[v, .slice (some ⟨g1, 0, none⟩) 1 1]).run Try.prog w = .ok (.slice (some ⟨g, 0, none⟩) (L.length + 1) cap) w' ∧ OwnW w' base (.slice (some ⟨g, 0, none⟩) (L.length + 1) cap) (L ++ [x]) ∧ Below base wr w' ∧ wr.grownBy w' v.ownBlock := by
  obtain ⟨i0, hi, hz0, hz1, hz2⟩ := info_parts info49
  obtain ⟨ps, k1, k2, k3⟩ := hO
  have hown := own_keep k1 hb
  have hu1 := hu.one
  obtain ⟨g, cap, w', hrun, h2, hg, hat, h5⟩ := run_append_lies (P := Try.prog) w 23 ty base 49 i0 (.agg #[.int .i64 0, .slice none 0 0]) 2 32 Try.underlying23 hi hz0 hz1 hz2 rfl (by decide) v L.length (ps.flatMap encW) hown ⟨g1, 0, none⟩ 1 1 [.int .i64 x.at_, u] rfl
    (fun j y hj => by
      have hj2 : j < 2 := by have := (List.getElem?_eq_some_iff.1 hj).1; simpa using this
      match j, hj2, hj with
      | 0, _, hj => simp at hj; subst hj; exact cell_at hblk rfl
      | 1, _, hj => simp at hj; subst hj; exact cell_at hblk rfl) (by intro y hy; simp at hy; rcases hy with rfl | rfl; exact rfl; exact hu1) (by decide) (by unfold maxLen; omega) (by omega) (by have := hb.size; omega) _ rfl
  have hne : ∀ b (cs : Array Value), w.heap[b]? = some (.cells cs 5 (0, 0)) → some b ≠ v.ownBlock := fun b cs h => not_row h (by decide) hown
  have e : ps.flatMap encW ++ [.int .i64 x.at_, u] = (ps ++ [(x.at_, u)]).flatMap encW := by rw [List.flatMap_append]; rfl
  refine ⟨g, cap, w', hrun, ⟨ps ++ [(x.at_, u)], ?_, by simp [k2], fun i p y hp hy => ?_⟩, ?_, ?_⟩
  · rw [← e, List.length_append]; exact h2
  · rcases Nat.lt_or_ge i ps.length with hi' | hi'
    · rw [List.getElem?_append_left hi'] at hp
      rw [List.getElem?_append_left (by omega)] at hy
      exact ⟨(k3 i p y hp hy).1, ((k3 i p y hp hy).2.keep hb).kept hg hne⟩
    · rw [List.getElem?_append_right hi'] at hp
      rw [List.getElem?_append_right (by omega)] at hy
      have h0 : i - ps.length = 0 := by
        have := (List.getElem?_eq_some_iff.1 hp).1
        simp at this; omega
      rw [← k2, h0] at hy
      rw [h0] at hp
      obtain rfl : (x.at_, u) = p := by simpa using hp
      obtain rfl : x = y := by simpa using hy
      exact ⟨rfl, (hu.kept hg hne).mono hbase⟩
  · refine (hb.mono hbase).trans ⟨hg.os, hg.tape, hg.output, hg.size, fun k hk => hg.block k (by have := hb.size; omega) fun e => ?_⟩
    have := (k1.lt k e.symm).1; omega
  · exact ⟨hg.os.trans hb.os, hg.tape.trans hb.tape, hg.output.trans hb.output, Nat.le_trans hb.size hg.size, fun k hk hne => (hg.block k (Nat.lt_of_lt_of_le hk hb.size) hne).trans (hb.block k hk)⟩
theorem wp_pushW {wr w : World} {o : Oper} {a : Act} {K : Act → World → Prop} {Q : Exit → Act → World → Prop} (s y : Operand) (ho : o.op = .call { callee := .builtin .append, args := #[s, y], argTypes := #[23, 23] })
    {base : Nat} {v : Value} {L : List Wt} {u : Value} {g1 : Nat} {x : Wt} (hs : a.eval s = v) (hy : a.eval y = .slice (some ⟨g1, 0, none⟩) 1 1) (hO : OwnW wr base v L) (hb : Below wr.heap.size wr w) (hu : OwnB w wr.heap.size u x.data) (hbase : base ≤ wr.heap.size)
    (hblk : w.heap[g1]? = some (.cells #[.int .i64 x.at_, u] 49 (0, 0))) (hL : L.length ≤ 1000000000)
    (h : ∀ g cap w', OwnW w' base (.slice (some ⟨g, 0, none⟩) (L.length + 1) cap) (L ++ [x]) → Below base wr w' → K (a.put o.dst (.slice (some ⟨g, 0, none⟩) (L.length + 1) cap)) w') : o.wp Try.prog a w K Q := by
  obtain ⟨g, cap, w', hr, h2, h3, h4⟩ := run_pushW (ty := o.type) hO hb hu hbase hblk hL
  unfold Oper.wp execOp
  simp only [ho, resolve, invoke, builtin, Sem.run_bind, Sem.run_pure, Result.andThen_ok, List.map_toArray, List.map_cons, List.map_nil, hs, hy, hr]
  exact h g cap w' h2 h3
theorem step_pushW {wr w : World} {ops : Array Oper} {o : Oper} {a : Act} {K : Act → World → Prop} {Q : Exit → Act → World → Prop} {E : Prop} (hgd : o.guard = none) (s y : Operand) (ho : o.op = .call { callee := .builtin .append, args := #[s, y], argTypes := #[23, 23] })
    {base : Nat} {v : Value} {L : List Wt} {u : Value} {g1 : Nat} {x : Wt} (hs : a.eval s = v) (hy : a.eval y = .slice (some ⟨g1, 0, none⟩) 1 1) (hO : OwnW wr base v L) (hb : Below wr.heap.size wr w) (hu : OwnB w wr.heap.size u x.data) (hbase : base ≤ wr.heap.size)
    (hblk : w.heap[g1]? = some (.cells #[.int .i64 x.at_, u] 49 (0, 0))) (hL : L.length ≤ 1000000000)
    (h : ∀ g cap w', OwnW w' base (.slice (some ⟨g, 0, none⟩) (L.length + 1) cap) (L ++ [x]) → Below base wr w' → K (a.put o.dst (.slice (some ⟨g, 0, none⟩) (L.length + 1) cap)) w') : if Region.wanted o (yielded ops a.tmps) = true then Oper.wp Try.prog o a w K Q else E := by
  have hw : Region.wanted o (yielded ops a.tmps) = true := by simp [Region.wanted, hgd]
  rw [if_pos hw]
  exact wp_pushW s y ho hs hy hO hb hu hbase hblk hL h
end Go.Proofs.Ytcembocnkndlhaa
/- The reference's walk: Sync. -/
namespace Go.Proofs.Ytcembocnkndlhaa
open Go.RowKit
theorem exec_x {v : Value} {base : Nat} {L : List (List UInt8)} {x : Wt} {dv : Value} {n : Int} {w : World} (hO : OwnR w base v L) (hbase : base ≤ w.heap.size) (hd : ∀ W, Below base w W → IsBytes W dv x.data) (hx : 0 ≤ x.at_ ∧ x.at_ < 400 ∧ x.data.length = 64) (hwd : Wide L) :
    Calls Try.prog 63 #[v, .agg #[.int .i64 x.at_, dv], .int .i64 n] w fun e w' => ∃ u, e = .returned u ∧ OwnR w' base u (put L x.at_.toNat x.data (max 0 (min n 64)).toNat) ∧ Below base w w' := by
  have h := rexec_any v base L x.at_.toNat dv x.data n w hO hbase hd hx.2.2 (by omega) (Lib.hid hwd)
  rw [show ((x.at_.toNat : Nat) : Int) = x.at_ by omega] at h
  exact h
set_option maxHeartbeats 4000000 in
set_option maxRecDepth 100000 in
theorem rSync_any (v : Value) (d : Dk) (w : World) (h : IsDisk w v d) : Calls Try.prog 23 #[v] w (DiskErr (syncD d) w) := by
  have h0 := h
  obtain ⟨pa, pc, wa, wc, rfl, hp, hw, m1, m2, m3⟩ := h.shape
  obtain ⟨C, hC⟩ : ∃ C, C = Obj.cells #[.slice pa d.pages.length pc, .slice wa d.writes.length wc, .bool d.down] 25 := ⟨_, rfl⟩
  obtain ⟨Z, hZ⟩ : ∃ Z, Z = Obj.cells #[.slice none 0 0, .slice none 0 0, .bool false] 25 := ⟨_, rfl⟩
  obtain ⟨wb, hwb⟩ : ∃ x : World, x = (w.alloc C).alloc Z := ⟨_, rfl⟩
  have b1 := below_new w C
  have b2 : Below (w.alloc C).heap.size (w.alloc C) wb := by subst hwb; exact below_new _ _
  have b0 := below_trans b1 b2
  have g0 : wb.heap[w.heap.size]? = some (.cells #[.slice pa d.pages.length pc, .slice wa d.writes.length wc, .bool d.down] 25 (0, 0)) := by
    subst hC; exact box_at b2
  have g1 : wb.heap[w.heap.size + 1]? = some (.cells #[.slice none 0 0, .slice none 0 0, .bool false] 25 (0, 0)) := by
    subst hwb hZ
    have := heap_alloc_new (w.alloc C) (.cells #[.slice none 0 0, .slice none 0 0, .bool false] 25)
    simpa using this
  have hsb : wb.heap.size = w.heap.size + 1 + 1 := by subst hwb; simp
  by_cases hf : failure d 0 = 0
  · have H := Lib.hid (show syncD d = (⟨replay d.pages d.writes, [], false⟩, 0) by unfold syncD; rw [if_neg (by simp [hf])])
    have hform := (failure_zero hf).1
    have HF := Lib.hid hf
    have HFm := Lib.hid hform
    have HP := Lib.hid (((formed_iff d).1 hform).2.1)
    have hpl : d.pages.length ≤ 400 := ((formed_iff d).1 hform).1
    clear hf hform
    go_enter Try.func23, Try.ntmps23
    go_wp2_with fail
    rw [← hC, ← hZ, ← hwb]
    clear hC hZ hwb b2
    refine (rfailure_eq (h0.keep b0) _ HF.out).mono ?_
    rintro e w3 ⟨rfl, b3⟩
    have b03 := below_trans b0 b3
    obtain ⟨y0, y1, y2, -, -, -⟩ := Box3.of (block_keep g0 b3)
    go_wp2_with fail
    refine (rpages_any _ d.pages _ (hp.keep b03) (by omega) (Lib.hid fun p hp => by have := HP.out p hp; omega)).mono ?_
    rintro e w5 ⟨pv, rfl, hO5, b5⟩
    have b35 := below_trans b3 b5
    have hs3 := b3.size
    have hs5 := b5.size
    clear y0 y1 y2
    have b05 := below_trans b0 b35
    have g05 := block_keep g0 b35
    have g15 := block_keep g1 b35
    go_wp2
    go_loopw [5, 6] (fun vo i wr => ∃ (k : Nat), k ≤ d.writes.length ∧ i = .int .i64 k ∧ OwnR wr w3.heap.size vo (replay d.pages (d.writes.take k)) ∧ Below w3.heap.size w5 wr) (fun _ i _ => d.writes.length - (intOf i).toNat)
    case atStart => exact ⟨0, Nat.zero_le _, rfl, hO5, Below.refl _ _⟩
    case round =>
      obtain ⟨k, hk, rfl, hOr, hb⟩ := hrel
      have bw3 : Below w3.heap.size w3 wr := b5.trans hb
      have bw : Below w.heap.size w wr := below_trans b03 bw3
      have g0r : wr.heap[w.heap.size]? = some (.cells #[.slice pa d.pages.length pc, .slice wa d.writes.length wc, .bool d.down] 25 (0, 0)) := (hb.block _ (by omega)).trans g05
      obtain ⟨y0, y1, y2, -, -, -⟩ := Box3.of g0r
      by_cases hlt : k < d.writes.length
      · obtain ⟨b, off, da, dc, rfl, c0, c1, hB⟩ := hw.at_ (List.getElem?_eq_getElem hlt)
        have HM := Lib.hid (((formed_iff d).1 HFm.out).2.2.1 d.writes[k] (List.getElem_mem hlt))
        have HT := Lib.hid (List.take_succ_eq_append_getElem hlt)
        have d0 := cell_keep bw c0
        have d1 := cell_keep bw c1
        generalize d.writes[k] = x at *
        clear c0 c1
        have hsr := hb.size
        have HFS := Lib.hid (wide_of_formed HFm.out k).1
        go_wp2_with fail
        refine (exec_x (x := x) hOr (by omega) (fun W hW => hB.keep (bw.trans (hW.mono (by omega)))) HM.out HFS.out).mono ?_
        rintro e w6 ⟨u, rfl, hO6, b6⟩
        go_wp2
        go_roundw
        case rel =>
          refine ⟨k + 1, by omega, by go_num, ?_, hb.trans b6⟩
          rw [HT.out, replay_snoc]; exact hO6
        case measure => simp [intOf]; omega
      · have e : k = d.writes.length := by omega
        subst e
        rw [List.take_length] at hOr
        obtain ⟨va, vc, rfl, hvc⟩ := hOr.len
        have g1r : wr.heap[w.heap.size + 1]? = some (.cells #[.slice none 0 0, .slice none 0 0, .bool false] 25 (0, 0)) := (hb.block _ (by omega)).trans g15
        obtain ⟨u0, u1, u2, uf0, uf1, uf2⟩ := Box3.of g1r
        have HFS := Lib.hid (wide_of_formed HFm.out d.writes.length)
        go_wp2
        refine bodyPost_ret (v := .tuple #[.agg #[.slice va (replay d.pages d.writes).length vc, .slice none 0 0, .bool false], .int .i64 0]) (by simp [results, Try.results23, go_sem, u0, u1, u2]) rfl ?_
        refine ⟨_, by rw [H.out], ?_, ?_⟩
        · rw [H.out]
          have hlen := HFS.out
          rw [List.take_length] at hlen
          have rF := ((hOr.store (p := ⟨w.heap.size + 1, 0, none⟩) (by simp; omega) (.slice va (replay d.pages d.writes).length vc)).store (p := ⟨w.heap.size + 1, 1, none⟩) (by simp; omega) (.slice none 0 0)).store (p := ⟨w.heap.size + 1, 2, none⟩) (by simp; omega) (.bool false)
          exact ⟨_, _, rfl, rF.is (by omega) (fun l hl => by have := hlen.1 l hl; omega), IsWrites.nil _⟩
        · exact ((bw.setCell (p := ⟨w.heap.size + 1, 0, none⟩) (by simp) _).setCell (p := ⟨w.heap.size + 1, 1, none⟩) (by simp) _).setCell (p := ⟨w.heap.size + 1, 2, none⟩) (by simp) _
  · have H := Lib.hid (show syncD d = (noDisk, failure d 0) by unfold syncD; rw [if_pos hf])
    have hne := ne_beq hf
    have hbq : (failure d 0 != 0) = true := by simpa using hf
    generalize hR : failure d 0 = R at *
    have HR := Lib.hid hR
    clear hR
    go_enter Try.func23, Try.ntmps23
    go_wp2_with fail
    rw [← hC, ← hZ, ← hwb]
    refine (rfailure_eq (h0.keep b0) _ HR.out).mono ?_
    rintro e w3 ⟨rfl, b3⟩
    obtain ⟨u0, u1, u2, uf0, uf1, uf2⟩ := Box3.of (block_keep g1 b3)
    go_wp2
    refine bodyPost_ret (v := .tuple #[zeroV, .int .i64 R]) (by simp [results, Try.results23, go_sem, zeroV, u0, u1, u2]) rfl ?_
    refine ⟨zeroV, by rw [H.out], by rw [H.out]; exact IsDisk.zero _, ?_⟩
    exact (((below_trans b0 b3).setCell (p := ⟨w.heap.size + 1, 0, none⟩) (by simp) _).setCell (p := ⟨w.heap.size + 1, 1, none⟩) (by simp) _).setCell (p := ⟨w.heap.size + 1, 2, none⟩) (by simp) _
end Go.Proofs.Ytcembocnkndlhaa
/- The disks that Sync hands back, the given program's and the reference's. -/
namespace Go.Proofs.Ytcembocnkndlhaa
open Go.RowKit
theorem nil_rows (W : World) : IsRows 2 encW W (.slice none 0 0) [] := ⟨none, 0, rfl, .inl rfl, by simp, by simp, by simp⟩
theorem off_pages {B : Nat → Prop} {wF : World} {base : Nat} {pv : Value} {L : List (List UInt8)} {dn : Bool} (h : OwnPages wF base pv L) (hB : ∀ β, B β → β < base) (hm : L.length ≤ 9223372036854775807) : OffDisk B wF (.agg #[pv, .slice none 0 0, .bool dn]) ⟨L, [], dn⟩ := by
  refine ⟨pv, _, [], rfl, rfl, fun W hW => ⟨?_, nil_rows W, by simp⟩⟩
  have hag : ∀ i, base ≤ i → i < wF.heap.size → W.heap[i]? = wF.heap[i]? := fun i h1 h2 => hW i h2 fun e => by have := hB i e; omega
  obtain ⟨gs, h1, h2, h3, h4, h5⟩ := h
  exact OwnPages.is (base := base) ⟨gs, own_agree h1 hag, h2, h3, h4, fun i g l hg hl => ⟨(hag g (h4 g (List.mem_of_getElem? hg)).1 (block_lt (h5 i g l hg hl).1)).trans (h5 i g l hg hl).1, (h5 i g l hg hl).2⟩⟩ hm
theorem off_pagesR {B : Nat → Prop} {wF : World} {base : Nat} {pv : Value} {L : List (List UInt8)} {dn : Bool} (h : OwnR wF base pv L) (hB : ∀ β, B β → β < base) (hm : L.length ≤ 9223372036854775807) (hl : ∀ l ∈ L, l.length ≤ 9223372036854775807) : OffDisk B wF (.agg #[pv, .slice none 0 0, .bool dn]) ⟨L, [], dn⟩ := by
  refine ⟨pv, _, [], rfl, rfl, fun W hW => ⟨?_, nil_rows W, by simp⟩⟩
  have hag : ∀ i, base ≤ i → i < wF.heap.size → W.heap[i]? = wF.heap[i]? := fun i h1 h2 => hW i h2 fun e => by have := hB i e; omega
  obtain ⟨us, h1, h2, h3, h4⟩ := h
  exact OwnR.is (base := base) ⟨us, own_agree h1 hag, h2, fun i u l hu hll => ⟨⟨own_agree (h3 i u l hu hll).1.1 hag, (h3 i u l hu hll).1.2⟩, (h3 i u l hu hll).2⟩, h4⟩ hm hl
set_option maxHeartbeats 4000000 in
set_option maxRecDepth 100000 in
theorem Sync_off (B : Nat → Prop) (v : Value) (d : Dk) (w : World) (h : IsDisk w v d) (hB : ∀ β, B β → β < w.heap.size) : Calls Try.prog 22 #[v] w (DiskErrOff B (syncD d) w) := by
  have h0 := h
  have HB := Lib.hid hB
  clear hB
  obtain ⟨pa, pc, wa, wc, rfl, hp, hw, m1, m2, m3⟩ := h.shape
  obtain ⟨C, hC⟩ : ∃ C, C = Obj.cells #[.slice pa d.pages.length pc, .slice wa d.writes.length wc, .bool d.down] 25 := ⟨_, rfl⟩
  obtain ⟨Z, hZ⟩ : ∃ Z, Z = Obj.cells #[.slice none 0 0, .slice none 0 0, .bool false] 25 := ⟨_, rfl⟩
  obtain ⟨wb, hwb⟩ : ∃ x : World, x = (w.alloc C).alloc Z := ⟨_, rfl⟩
  have b1 := below_new w C
  have b2 : Below (w.alloc C).heap.size (w.alloc C) wb := by subst hwb; exact below_new _ _
  have b0 := below_trans b1 b2
  have g0 : wb.heap[w.heap.size]? = some (.cells #[.slice pa d.pages.length pc, .slice wa d.writes.length wc, .bool d.down] 25 (0, 0)) := by
    subst hC; exact box_at b2
  have g1 : wb.heap[w.heap.size + 1]? = some (.cells #[.slice none 0 0, .slice none 0 0, .bool false] 25 (0, 0)) := by
    subst hwb hZ
    have := heap_alloc_new (w.alloc C) (.cells #[.slice none 0 0, .slice none 0 0, .bool false] 25)
    simpa using this
  have hsb : wb.heap.size = w.heap.size + 1 + 1 := by subst hwb; simp
  by_cases hf : failure d 0 = 0
  · have H := Lib.hid (show syncD d = (⟨replay d.pages d.writes, [], false⟩, 0) by unfold syncD; rw [if_neg (by simp [hf])])
    have hform := (failure_zero hf).1
    have HF := Lib.hid hf
    have HFm := Lib.hid hform
    clear hf hform
    go_enter Try.func22, Try.ntmps22
    go_wp2_with fail
    rw [← hC, ← hZ, ← hwb]
    clear hC hZ hwb b2
    refine (failure_eq (h0.keep b0) _ HF.out).mono ?_
    rintro e w3 ⟨rfl, b3⟩
    have b03 := below_trans b0 b3
    obtain ⟨y0, y1, y2, -, -, -⟩ := Box3.of (block_keep g0 b3)
    go_wp2_with fail
    refine (spin_x (h0.keep b03) HFm.out).mono ?_
    rintro e w4 ⟨gp, pv, rfl, hgp, hg4, hO4, b4⟩
    have b34 := below_trans b3 b4
    have hs3 := b3.size
    clear y0 y1 y2
    obtain ⟨y0, y1, y2, -, -, -⟩ := Box3.of (block_keep g0 b34)
    have b04 := below_trans b0 b34
    go_wp2
    have hsg : wb.heap.size ≤ gp := by omega
    have hlt4 : gp < w4.heap.size := block_lt hg4
    go_loopw [8, 22] (fun _ i wr => ∃ (k : Nat) (pv : Value), k ≤ d.writes.length ∧ i = .int .i64 k ∧ wr.heap[gp]? = some (.cells #[pv] 77 (0, 0)) ∧ OwnPages wr (gp + 1) pv (replay d.pages (d.writes.take k)) ∧ Below gp w4 wr) (fun _ i _ => d.writes.length - (intOf i).toNat)
    case atStart => exact ⟨0, pv, Nat.zero_le _, rfl, hg4, hO4, Below.refl _ _⟩
    case round =>
      obtain ⟨k, pv', hk, rfl, hgr, hOr, hb⟩ := hrel
      have bw : Below w.heap.size w wr := b04.trans (hb.mono (by omega))
      by_cases hlt : k < d.writes.length
      · obtain ⟨b, off, da, dc, rfl, c0, c1, hB⟩ := hw.at_ (List.getElem?_eq_getElem hlt)
        have HM := Lib.hid (((formed_iff d).1 HFm.out).2.2.1 d.writes[k] (List.getElem_mem hlt))
        have HT := Lib.hid (List.take_succ_eq_append_getElem hlt)
        have d0 := cell_keep bw c0
        have d1 := cell_keep bw c1
        generalize d.writes[k] = x at *
        clear c0 c1
        have hsr := hb.size
        go_wp2_with fail
        refine (plate_x (x := x) (block_keep hgr (below_new _ _)) (hOr.keep (below_new _ _)) (fun W hW => hB.keep ((bw.alloc bw.size _).trans (hW.mono (show w.heap.size ≤ gp by omega)))) HM.out (by omega) (by omega)).mono ?_
        rintro e w6 ⟨⟨u, rfl⟩, pv6, hg6, hO6, b6⟩
        go_wp2
        go_roundw
        case rel =>
          refine ⟨k + 1, pv6, by omega, by go_num, hg6, ?_, (hb.alloc (by omega) _).trans b6⟩
          rw [HT.out, replay_snoc]; exact hO6
        case measure => simp [intOf]; omega
      · have e : k = d.writes.length := by omega
        subst e
        rw [List.take_length] at hOr
        obtain ⟨va, vc, rfl⟩ := hOr.len
        have hcg : wr.cell? ⟨gp, 0, none⟩ = some (.slice va (replay d.pages d.writes).length vc) := cell_at (j := 0) hgr rfl
        have bb : Below wb.heap.size wb wr := b34.trans (hb.mono (show wb.heap.size ≤ gp by omega))
        obtain ⟨u0, u1, u2, uf0, uf1, uf2⟩ := Box3.of (block_keep g1 bb)
        have hne : gp ≠ w.heap.size + 1 := by omega
        have hne' : w.heap.size + 1 ≠ gp := by omega
        have HFS := Lib.hid (wide_of_formed HFm.out d.writes.length).2
        go_wp2
        refine bodyPost_ret (v := .tuple #[.agg #[.slice va (replay d.pages d.writes).length vc, .slice none 0 0, .bool false], .int .i64 0]) (by simp [results, Try.results22, go_sem, u0, u1, u2]) rfl ?_
        refine ⟨_, by rw [H.out], ?_, ?_⟩
        · rw [H.out]
          have hlen := HFS.out
          rw [List.take_length] at hlen
          exact off_pages (((hOr.store (p := ⟨w.heap.size + 1, 0, none⟩) (by simp; omega) _).store (p := ⟨w.heap.size + 1, 1, none⟩) (by simp; omega) _).store (p := ⟨w.heap.size + 1, 2, none⟩) (by simp; omega) _) (fun β hβ => by have := HB.out β hβ; omega) (by omega)
        · exact ((bw.setCell (p := ⟨w.heap.size + 1, 0, none⟩) (by simp) _).setCell (p := ⟨w.heap.size + 1, 1, none⟩) (by simp) _).setCell (p := ⟨w.heap.size + 1, 2, none⟩) (by simp) _
  · have H := Lib.hid (show syncD d = (noDisk, failure d 0) by unfold syncD; rw [if_pos hf])
    have hne := ne_beq hf
    have hbq : (failure d 0 != 0) = true := by simpa using hf
    generalize hR : failure d 0 = R at *
    have HR := Lib.hid hR
    clear hR
    go_enter Try.func22, Try.ntmps22
    go_wp2_with fail
    rw [← hC, ← hZ, ← hwb]
    refine (failure_eq (h0.keep b0) _ HR.out).mono ?_
    rintro e w3 ⟨rfl, b3⟩
    obtain ⟨u0, u1, u2, uf0, uf1, uf2⟩ := Box3.of (block_keep g1 b3)
    go_wp2
    refine bodyPost_ret (v := .tuple #[zeroV, .int .i64 R]) (by simp [results, Try.results22, go_sem, zeroV, u0, u1, u2]) rfl ?_
    refine ⟨zeroV, by rw [H.out], by rw [H.out]; exact OffDisk.zero B _, ?_⟩
    exact (((below_trans b0 b3).setCell (p := ⟨w.heap.size + 1, 0, none⟩) (by simp) _).setCell (p := ⟨w.heap.size + 1, 1, none⟩) (by simp) _).setCell (p := ⟨w.heap.size + 1, 2, none⟩) (by simp) _
set_option maxHeartbeats 4000000 in
set_option maxRecDepth 100000 in
theorem rSync_off (B : Nat → Prop) (v : Value) (d : Dk) (w : World) (h : IsDisk w v d) (hB : ∀ β, B β → β < w.heap.size) : Calls Try.prog 23 #[v] w (DiskErrOff B (syncD d) w) := by
  have h0 := h
  have HB := Lib.hid hB
  clear hB
  obtain ⟨pa, pc, wa, wc, rfl, hp, hw, m1, m2, m3⟩ := h.shape
  obtain ⟨C, hC⟩ : ∃ C, C = Obj.cells #[.slice pa d.pages.length pc, .slice wa d.writes.length wc, .bool d.down] 25 := ⟨_, rfl⟩
  obtain ⟨Z, hZ⟩ : ∃ Z, Z = Obj.cells #[.slice none 0 0, .slice none 0 0, .bool false] 25 := ⟨_, rfl⟩
  obtain ⟨wb, hwb⟩ : ∃ x : World, x = (w.alloc C).alloc Z := ⟨_, rfl⟩
  have b1 := below_new w C
  have b2 : Below (w.alloc C).heap.size (w.alloc C) wb := by subst hwb; exact below_new _ _
  have b0 := below_trans b1 b2
  have g0 : wb.heap[w.heap.size]? = some (.cells #[.slice pa d.pages.length pc, .slice wa d.writes.length wc, .bool d.down] 25 (0, 0)) := by
    subst hC; exact box_at b2
  have g1 : wb.heap[w.heap.size + 1]? = some (.cells #[.slice none 0 0, .slice none 0 0, .bool false] 25 (0, 0)) := by
    subst hwb hZ
    have := heap_alloc_new (w.alloc C) (.cells #[.slice none 0 0, .slice none 0 0, .bool false] 25)
    simpa using this
  have hsb : wb.heap.size = w.heap.size + 1 + 1 := by subst hwb; simp
  by_cases hf : failure d 0 = 0
  · have H := Lib.hid (show syncD d = (⟨replay d.pages d.writes, [], false⟩, 0) by unfold syncD; rw [if_neg (by simp [hf])])
    have hform := (failure_zero hf).1
    have HF := Lib.hid hf
    have HFm := Lib.hid hform
    have HP := Lib.hid (((formed_iff d).1 hform).2.1)
    have hpl : d.pages.length ≤ 400 := ((formed_iff d).1 hform).1
    clear hf hform
    go_enter Try.func23, Try.ntmps23
    go_wp2_with fail
    rw [← hC, ← hZ, ← hwb]
    clear hC hZ hwb b2
    refine (rfailure_eq (h0.keep b0) _ HF.out).mono ?_
    rintro e w3 ⟨rfl, b3⟩
    have b03 := below_trans b0 b3
    obtain ⟨y0, y1, y2, -, -, -⟩ := Box3.of (block_keep g0 b3)
    go_wp2_with fail
    refine (rpages_any _ d.pages _ (hp.keep b03) (by omega) (Lib.hid fun p hp => by have := HP.out p hp; omega)).mono ?_
    rintro e w5 ⟨pv, rfl, hO5, b5⟩
    have b35 := below_trans b3 b5
    have hs3 := b3.size
    have hs5 := b5.size
    clear y0 y1 y2
    have b05 := below_trans b0 b35
    have g05 := block_keep g0 b35
    have g15 := block_keep g1 b35
    go_wp2
    go_loopw [5, 6] (fun vo i wr => ∃ (k : Nat), k ≤ d.writes.length ∧ i = .int .i64 k ∧ OwnR wr w3.heap.size vo (replay d.pages (d.writes.take k)) ∧ Below w3.heap.size w5 wr) (fun _ i _ => d.writes.length - (intOf i).toNat)
    case atStart => exact ⟨0, Nat.zero_le _, rfl, hO5, Below.refl _ _⟩
    case round =>
      obtain ⟨k, hk, rfl, hOr, hb⟩ := hrel
      have bw3 : Below w3.heap.size w3 wr := b5.trans hb
      have bw : Below w.heap.size w wr := below_trans b03 bw3
      have g0r : wr.heap[w.heap.size]? = some (.cells #[.slice pa d.pages.length pc, .slice wa d.writes.length wc, .bool d.down] 25 (0, 0)) := (hb.block _ (by omega)).trans g05
      obtain ⟨y0, y1, y2, -, -, -⟩ := Box3.of g0r
      by_cases hlt : k < d.writes.length
      · obtain ⟨b, off, da, dc, rfl, c0, c1, hB⟩ := hw.at_ (List.getElem?_eq_getElem hlt)
        have HM := Lib.hid (((formed_iff d).1 HFm.out).2.2.1 d.writes[k] (List.getElem_mem hlt))
        have HT := Lib.hid (List.take_succ_eq_append_getElem hlt)
        have d0 := cell_keep bw c0
        have d1 := cell_keep bw c1
        generalize d.writes[k] = x at *
        clear c0 c1
        have hsr := hb.size
        have HFS := Lib.hid (wide_of_formed HFm.out k).1
        go_wp2_with fail
        refine (exec_x (x := x) hOr (by omega) (fun W hW => hB.keep (bw.trans (hW.mono (by omega)))) HM.out HFS.out).mono ?_
        rintro e w6 ⟨u, rfl, hO6, b6⟩
        go_wp2
        go_roundw
        case rel =>
          refine ⟨k + 1, by omega, by go_num, ?_, hb.trans b6⟩
          rw [HT.out, replay_snoc]; exact hO6
        case measure => simp [intOf]; omega
      · have e : k = d.writes.length := by omega
        subst e
        rw [List.take_length] at hOr
        obtain ⟨va, vc, rfl, hvc⟩ := hOr.len
        have g1r : wr.heap[w.heap.size + 1]? = some (.cells #[.slice none 0 0, .slice none 0 0, .bool false] 25 (0, 0)) := (hb.block _ (by omega)).trans g15
        obtain ⟨u0, u1, u2, uf0, uf1, uf2⟩ := Box3.of g1r
        have HFS := Lib.hid (wide_of_formed HFm.out d.writes.length)
        go_wp2
        refine bodyPost_ret (v := .tuple #[.agg #[.slice va (replay d.pages d.writes).length vc, .slice none 0 0, .bool false], .int .i64 0]) (by simp [results, Try.results23, go_sem, u0, u1, u2]) rfl ?_
        refine ⟨_, by rw [H.out], ?_, ?_⟩
        · rw [H.out]
          have hlen := HFS.out
          rw [List.take_length] at hlen
          have rF := ((hOr.store (p := ⟨w.heap.size + 1, 0, none⟩) (by simp; omega) (.slice va (replay d.pages d.writes).length vc)).store (p := ⟨w.heap.size + 1, 1, none⟩) (by simp; omega) (.slice none 0 0)).store (p := ⟨w.heap.size + 1, 2, none⟩) (by simp; omega) (.bool false)
          exact off_pagesR rF (fun β hβ => by have := HB.out β hβ; omega) (by omega) (fun l hl => by have := hlen.1 l hl; omega)
        · exact ((bw.setCell (p := ⟨w.heap.size + 1, 0, none⟩) (by simp) _).setCell (p := ⟨w.heap.size + 1, 1, none⟩) (by simp) _).setCell (p := ⟨w.heap.size + 1, 2, none⟩) (by simp) _
  · have H := Lib.hid (show syncD d = (noDisk, failure d 0) by unfold syncD; rw [if_pos hf])
    have hne := ne_beq hf
    have hbq : (failure d 0 != 0) = true := by simpa using hf
    generalize hR : failure d 0 = R at *
    have HR := Lib.hid hR
    clear hR
    go_enter Try.func23, Try.ntmps23
    go_wp2_with fail
    rw [← hC, ← hZ, ← hwb]
    refine (rfailure_eq (h0.keep b0) _ HR.out).mono ?_
    rintro e w3 ⟨rfl, b3⟩
    obtain ⟨u0, u1, u2, uf0, uf1, uf2⟩ := Box3.of (block_keep g1 b3)
    go_wp2
    refine bodyPost_ret (v := .tuple #[zeroV, .int .i64 R]) (by simp [results, Try.results23, go_sem, zeroV, u0, u1, u2]) rfl ?_
    refine ⟨zeroV, by rw [H.out], by rw [H.out]; exact OffDisk.zero B _, ?_⟩
    exact (((below_trans b0 b3).setCell (p := ⟨w.heap.size + 1, 0, none⟩) (by simp) _).setCell (p := ⟨w.heap.size + 1, 1, none⟩) (by simp) _).setCell (p := ⟨w.heap.size + 1, 2, none⟩) (by simp) _
end Go.Proofs.Ytcembocnkndlhaa
/- A range over a function whose iterator says what holds behind it: the caller's rounds all go on. -/
namespace Go.Proofs.Ytcembocnkndlhaa
open Go.RowKit Go.Shelf
/-- The iterator's promise: what has come, and what the world is then. -/
def SeqTold {α : Type} (F : Fence) (n : Nat) (P : Program) (g : Nat) (lb : Array Value) (encs : α → Array Value) (Kp : World → World → Prop) (S : List α → World → Prop) (N : Nat) (w : World) : Prop :=
  ∀ (l : Nat) (J : List α → World → Prop) (W : World), Below w.heap.size w W → (∀ s A B, J s A → A.grownBy B none → J s B) →
    (∀ pre x A, J pre A → pre.length < N → YieldAt F (n - 1) P l (encs x) A fun e B => e = .returned (.bool true) ∧ J (pre ++ [x]) B ∧ Kp A B) →
    J [] W → CallsIn F n P g (#[.func (.yield l) #[] #[]] ++ lb) W fun e B => (∃ v, e = .returned v) ∧ ∃ xs, S xs B ∧ J xs B
/-- The two blocks of book-keeping: the record, and the block of deferred calls before it. -/
structure Books (b : Nat) (r : Loop) (W : World) : Prop where
  lp : W.heap[b + 1]? = some (.loop r)
  df : W.heap[b]? = some (.deferred (some []))
theorem Books.grown {b : Nat} {r : Loop} {A B : World} (h : Books b r A) (hg : A.grownBy B none) : Books b r B :=
  ⟨(hg.block _ (Array.getElem?_eq_some_iff.1 h.lp).1 (by simp)).trans h.lp, (hg.block _ (Array.getElem?_eq_some_iff.1 h.df).1 (by simp)).trans h.df⟩
theorem Books.kept {b : Nat} {r : Loop} {A B : World} (h : Books b r A) (hk : KeepsFrom b A B) : Books b r B :=
  ⟨hk.same _ _ (by omega) h.lp rfl, hk.same _ _ (Nat.le_refl _) h.df rfl⟩
theorem Books.turn {b : Nat} {r : Loop} {A : World} (h : Books b r A) (q : Loop) : Books b q (A.putObj (b + 1) (.loop q)) :=
  ⟨World.putObj_heap_same (Array.getElem?_eq_some_iff.1 h.lp).1, (World.putObj_heap_other (by omega)).trans h.df⟩
theorem Books.start (w : World) (r : Loop) : Books w.heap.size r ((w.alloc (.deferred (some []))).alloc (.loop r)) := by
  constructor
  · have := World.alloc_heap_new (w.alloc (.deferred (some []))) (.loop r)
    rwa [World.size_alloc] at this
  · exact (Below.heap_alloc _ _ _ (by simp)).trans (World.alloc_heap_new w _)
theorem range_told {α : Type} {F : Fence} {n : Nat} {P : Program} {g : Operand} {ps : Array Tmp} {assign body : Code} {Q : Exit → Act → World → Prop} {a : Act} {w : World}
    (hro : F.round = none) (h1 : 1 ≤ n) {gf : Nat} {lb : Array Value} (hg : a.eval g = .func (.func gf) #[] lb) (hFg : F.fn gf) (eg : ∀ args w, (callFunc gf args).run P w = .ok (.enter gf args) w)
    {encs : α → Array Value} {Kp : World → World → Prop} {S : List α → World → Prop} {N : Nat} {w0 : World} (hseq : SeqTold F (n - 1) P gf lb encs Kp S N w0)
    (hKt : ∀ {A B C : World}, Kp A B → Kp B C → Kp A C) (hKb : ∀ (W : World) (l : Nat) (o o' : Obj), w.heap.size ≤ l → W.heap[l]? = some o → o.isCells = false → o.isWalk = false → Kp W (W.putObj l o'))
    (hb0 : Below w0.heap.size w0 w) (hps : ∀ x, (encs x).size = ps.size) (hS : OwnFrom w.heap.size S)
    (I : List α → World → Prop) (hI : OwnFrom w.heap.size I) (h0 : I [] w) (Ax : α → Act → World → Prop) (hAx : ∀ x a', OwnFrom w.heap.size (fun (_ : Unit) W => Ax x a' W))
    (hassign : ∀ (l : Nat) (pre : List α) (x : α) (W : World) (K : Act → World → Prop), I pre W → (∀ a' W', KeepsFrom w.heap.size W W' → Kp W W' → I pre W' → Ax x a' W' → K a' W') → assign.wpIn (F.inRound l) (n - 1 - 1) P (Exit.then K (fun _ _ _ => False)) { tmps := (ps.zip (encs x)).foldl (fun t (p, v) => t.setIfInBounds p v) a.tmps, defers := [] } W)
    (hbody : ∀ (l : Nat) (pre : List α) (x : α) (a' : Act) (W : World), w.heap.size ≤ l → I pre W → Ax x a' W → pre.length < N → body.wpIn (F.inRound l) (n - 1 - 1) P (fun e _ B => e = .normal ∧ KeepsFrom w.heap.size W B ∧ Kp W B ∧ I (pre ++ [x]) B) a' W)
    (hdone : ∀ (D : Nat) (xs : List α) (W : World), w.heap.size ≤ D → S xs W → I xs W → W.heap[D]? = some (.deferred (some [])) → Q .normal { a with defers := { target := .collected D, args := #[] } :: a.defers } W) :
    (Code.rangeFunc g ps assign body).wpIn F n P Q a w := by
  refine wpIn_rangeFunc fun fn hfn => ?_
  rw [hro]
  obtain ⟨r, hr⟩ : ∃ r : Loop, r = { state := .ready, pending := none, fn, tmps := a.tmps, params := ps, assign, body, defers := w.heap.size } := ⟨_, rfl⟩
  obtain ⟨b, hb⟩ : ∃ b, b = w.heap.size := ⟨_, rfl⟩
  have hB := Books.start w r
  have hW := ((Below.refl w.heap.size w).alloc (Nat.le_refl _) (.deferred (some []))).alloc (by simp) (.loop r)
  have hIW : I [] ((w.alloc (.deferred (some []))).alloc (.loop r)) := hI.alloc _ (hI.alloc _ h0)
  generalize hX : (w.alloc (.deferred (some []))).alloc (.loop r) = X at hB hW hIW
  refine ⟨w.heap.size + 1, [{ target := .collected w.heap.size, args := #[] }], X, { target := .fn (.func gf) lb, args := #[.func (.yield (w.heap.size + 1)) #[] #[]] }, X, gf, #[.func (.yield (w.heap.size + 1)) #[] #[]] ++ lb, X, ?_, ?_, ?_, ?_, fun _ => h1, ?_⟩
  · rw [← hX, hr]; exact run_enterLoop_outer _ _ _ _ _
  · simp only [resolve, hg]; simp [go_sem]
  · intro f' hf'; simp [Target.leads] at hf'; subst hf'; exact hFg
  · simp [invoke, go_sem, eg]
  refine (hseq (w.heap.size + 1) (fun pre W => I pre W ∧ Books w.heap.size r W) X (hb0.trans (hW.mono hb0.size)) (fun s A B h hgr => ⟨hI s A B none h.1 hgr (by simp), h.2.grown hgr⟩) (fun pre x A h hN => ?_) ⟨hIW, hB⟩).mono ?_
  · obtain ⟨hi, hk⟩ := h
    have hy := run_yield (P := P) (args := encs x) hk.lp (by rw [hr]; exact hps x)
    rw [hr] at hy
    refine ⟨fn, _, assign, body, hy, roundIn_of_wpIn hfn (hassign _ pre x A _ hi ?_)⟩
    intro a' A2 hka hpa hia hax
    have hk2 := hk.kept hka
    refine ⟨_, run_beginRound hk2.lp (by rw [hr]), ?_⟩
    have ht := hk2.turn { r with state := .busy }
    have hi2 := hI.putObj (.loop { r with state := .busy }) hia (l := w.heap.size + 1) (by omega) hk2.lp rfl
    have hx2 := (hAx x a').putObj (s := ()) (.loop { r with state := .busy }) hax (l := w.heap.size + 1) (by omega) hk2.lp rfl
    have hp1 : Kp A (A2.putObj (w.heap.size + 1) (.loop { r with state := .busy })) := hKt hpa (hKb _ _ _ _ (by omega) hk2.lp rfl rfl)
    refine wpIn_mono (hbody (w.heap.size + 1) pre x a' _ (by omega) hi2 hx2 hN) ?_
    rintro e a3 B ⟨rfl, hkf, hkp, hi3⟩
    have hkB := ht.kept hkf
    have he := run_endRound (P := P) none hkB.lp
    refine ⟨_, _, he, rfl, ⟨hI.putObj _ hi3 (by omega) hkB.lp rfl, ?_⟩, hKt hp1 (hKt hkp (hKb _ _ _ _ (by omega) hkB.lp rfl rfl))⟩
    have := hkB.turn r
    rw [hr] at this ⊢
    exact this
  · rintro e B ⟨⟨v, rfl⟩, xs, hs, hi, hk⟩
    subst hr
    exact ⟨none, _, run_endLoop (P := P) hk.lp (by simp), hdone _ xs _ (Nat.le_refl _) (hS.putObj _ hs (by omega) hk.lp rfl) (hI.putObj _ hi (by omega) hk.lp rfl) ((World.putObj_heap_other (by omega)).trans hk.df)⟩
end Go.Proofs.Ytcembocnkndlhaa
/- Logs in plain Lean: checksums, frames, records. -/
namespace Go.Proofs.Ytcembocnkndlhaa
/-! ### Checksums -/
def two32 : Nat := 4294967296
def sumStep (h : Nat) (c : UInt8) : Nat := ((h ^^^ c.toNat) * 16777619) % two32
def sumFrom (h : Nat) (l : List UInt8) : Nat := l.foldl sumStep h
def sumN (l : List UInt8) : Nat := sumFrom 2166136261 l
theorem sumStep_lt (h : Nat) (c : UInt8) : sumStep h c < two32 := Nat.mod_lt _ (by unfold two32; omega)
theorem sumFrom_cons (h : Nat) (c : UInt8) (r : List UInt8) : sumFrom h (c :: r) = sumFrom (sumStep h c) r := by unfold sumFrom; rw [List.foldl_cons]
theorem sumFrom_append (h : Nat) (l m : List UInt8) : sumFrom h (l ++ m) = sumFrom (sumFrom h l) m := by unfold sumFrom; rw [List.foldl_append]
theorem sumFrom_lt {h : Nat} (l : List UInt8) (k : h < two32) : sumFrom h l < two32 := by
  induction l generalizing h with
  | nil => exact k
  | cons c r ih => rw [sumFrom_cons]; exact ih (sumStep_lt h c)
theorem sumN_lt (l : List UInt8) : sumN l < two32 := sumFrom_lt l (by unfold two32; omega)
theorem back_mod {N M K q a : Nat} (hq : M * K = q * N + 1) (ha : a < N) : (a * M % N) * K % N = a := by
  rw [Nat.mod_mul_mod, Nat.mul_assoc, hq, Nat.mul_add, Nat.mul_one, ← Nat.mul_assoc, Nat.add_comm, Nat.add_mul_mod_self_right]
  exact Nat.mod_eq_of_lt ha
theorem inj_mod {N M K q a b : Nat} (hq : M * K = q * N + 1) (ha : a < N) (hb : b < N) (h : a * M % N = b * M % N) : a = b := by
  rw [← back_mod hq ha, ← back_mod hq hb, h]
theorem prod32 : 16777619 * 899433627 = 3513497 * two32 + 1 := by unfold two32; rfl
theorem mul_inj {a b : Nat} (ha : a < two32) (hb : b < two32) (h : a * 16777619 % two32 = b * 16777619 % two32) : a = b :=
  inj_mod prod32 ha hb h
theorem xor_lt {h : Nat} {c : UInt8} (k : h < two32) : h ^^^ c.toNat < two32 := by
  have : c.toNat < 2 ^ 32 := by have := c.toNat_lt; omega
  exact Nat.xor_lt_two_pow (n := 32) k this
theorem sumStep_inj {h : Nat} {a b : UInt8} (k : h < two32) (e : sumStep h a = sumStep h b) : a = b := by
  have := mul_inj (xor_lt k) (xor_lt k) e
  have h2 : h ^^^ (h ^^^ a.toNat) = h ^^^ (h ^^^ b.toNat) := by rw [this]
  rw [← Nat.xor_assoc, ← Nat.xor_assoc, Nat.xor_self, Nat.zero_xor, Nat.zero_xor] at h2
  exact UInt8.toNat_inj.1 h2
theorem sumStep_inj' {g h : Nat} {a : UInt8} (k : g < two32) (l : h < two32) (e : sumStep g a = sumStep h a) : g = h := by
  have := mul_inj (xor_lt k) (xor_lt l) e
  have h2 : (g ^^^ a.toNat) ^^^ a.toNat = (h ^^^ a.toNat) ^^^ a.toNat := by rw [this]
  rwa [Nat.xor_assoc, Nat.xor_assoc, Nat.xor_self, Nat.xor_zero, Nat.xor_zero] at h2
theorem sumFrom_inj : ∀ (l : List UInt8) {g h : Nat}, g < two32 → h < two32 → sumFrom g l = sumFrom h l → g = h
  | [], _, _, _, _, e => e
  | c :: r, _, _, k, l, e => by
    rw [sumFrom_cons, sumFrom_cons] at e
    exact sumStep_inj' k l (sumFrom_inj r (sumStep_lt _ c) (sumStep_lt _ c) e)
theorem sumN_append (l m : List UInt8) : sumN (l ++ m) = sumFrom (sumN l) m := by unfold sumN; rw [sumFrom_append]
/-- Changing one byte changes the checksum. -/
theorem sum_set {l : List UInt8} {k : Nat} (hk : k < l.length) {c : UInt8} (hc : c ≠ l[k]) : sumN (l.set k c) ≠ sumN l := by
  intro e
  have e1 : l = l.take k ++ l[k] :: l.drop (k + 1) := by rw [List.getElem_cons_drop, List.take_append_drop]
  have e2 : l.set k c = l.take k ++ c :: l.drop (k + 1) := by rw [List.set_eq_take_append_cons_drop, if_pos hk]
  have e3 : sumN l = sumFrom (sumStep (sumN (l.take k)) l[k]) (l.drop (k + 1)) := by
    conv => lhs; rw [e1]
    rw [sumN_append, sumFrom_cons]
  have e4 : sumN (l.set k c) = sumFrom (sumStep (sumN (l.take k)) c) (l.drop (k + 1)) := by
    rw [e2, sumN_append, sumFrom_cons]
  rw [e3, e4] at e
  exact hc (sumStep_inj (sumN_lt _) (sumFrom_inj _ (sumStep_lt _ _) (sumStep_lt _ _) e))
theorem sum_snoc {l : List UInt8} {a b : UInt8} (h : a ≠ b) : sumN (l ++ [a]) ≠ sumN (l ++ [b]) := by
  intro e
  rw [sumN_append, sumN_append, sumFrom_cons, sumFrom_cons] at e
  exact h (sumStep_inj (sumN_lt l) (sumFrom_inj [] (sumStep_lt _ _) (sumStep_lt _ _) e))
/-! ### Frames -/
def pagesN (n : Nat) : Nat := 1 + (n - 55 + 63) / 64
def fourN (n : Nat) : List UInt8 := [UInt8.ofNat n, UInt8.ofNat (n / 256), UInt8.ofNat (n / 65536), UInt8.ofNat (n / 16777216)]
def number (b : List UInt8) : Nat := (b.getD 0 0).toNat + 256 * (b.getD 1 0).toNat + 65536 * (b.getD 2 0).toNat + 16777216 * (b.getD 3 0).toNat
theorem number_four {n : Nat} (h : n < two32) (r : List UInt8) : number (fourN n ++ r) = n := by
  unfold number fourN two32 at *
  simp only [List.cons_append, List.nil_append, List.getD_cons_zero, List.getD_cons_succ, UInt8.toNat_ofNat']
  omega
theorem length_four (n : Nat) : (fourN n).length = 4 := rfl
/-- The first page of a record's frame. -/
def firstPage (r : List UInt8) : List UInt8 := fourN r.length ++ (fourN (sumN r) ++ (r.take 55 ++ (zeros (55 - r.length) ++ [1])))
theorem length_first (r : List UInt8) : (firstPage r).length = 64 := by simp [firstPage, fourN, zeros]; omega
/-- The pages of a frame behind the first. -/
def chunks : Nat → List UInt8 → List (List UInt8)
  | 0, _ => []
  | k + 1, l => full l :: chunks k (l.drop 64)
def restPages (r : List UInt8) : List (List UInt8) := chunks (pagesN r.length - 1) (r.drop 55)
theorem length_chunks : ∀ (k : Nat) (l : List UInt8), (chunks k l).length = k
  | 0, _ => rfl
  | k + 1, l => by simp [chunks, length_chunks k]
theorem chunks_flat : ∀ (k : Nat) (l : List UInt8), l.length ≤ 64 * k → (chunks k l).flatten = l ++ zeros (64 * k - l.length)
  | 0, l, h => by
    obtain rfl : l = [] := List.eq_nil_of_length_eq_zero (by omega)
    rfl
  | k + 1, l, h => by
    show full l ++ (chunks k (l.drop 64)).flatten = _
    rw [chunks_flat k _ (by rw [List.length_drop]; omega), List.length_drop]
    unfold full
    rcases Nat.lt_or_ge l.length 64 with hl | hl
    · rw [List.take_of_length_le (by omega), List.drop_of_length_le (by omega), List.nil_append, List.append_assoc]
      congr 1
      unfold zeros
      rw [List.replicate_append_replicate]
      congr 1; omega
    · rw [show 64 - l.length = 0 by omega, show zeros 0 = [] from rfl, List.append_nil, ← List.append_assoc, List.take_append_drop]
      congr 2; omega
/-! ### Records -/
abbrev Pages := Nat → List UInt8
/-- The bytes of a frame behind its header, as its pages hold them. -/
def bytesAt (P : Pages) (k n : Nat) : List UInt8 := ((P k).drop 8).take 55 ++ ((List.range (pagesN n - 1)).map fun i => P (k + 1 + i)).flatten
/-- The record at a page and the page behind it. -/
def entryAt (P : Pages) (k : Nat) : Option (List UInt8 × Nat) :=
  if (P k).getD 63 0 ≠ 1 ∨ k + pagesN (number (P k)) > 400 then none
  else if sumN ((bytesAt P k (number (P k))).take (number (P k))) ≠ number ((P k).drop 4) then none
  else some ((bytesAt P k (number (P k))).take (number (P k)), k + pagesN (number (P k)))
theorem entryAt_lt {P : Pages} {k : Nat} {r : List UInt8} {e : Nat} (h : entryAt P k = some (r, e)) : k < e ∧ e ≤ 400 := by
  unfold entryAt at h
  split at h
  · cases h
  · split at h
    · cases h
    · rename_i a b
      simp only [Option.some.injEq, Prod.mk.injEq] at h
      have : 1 ≤ pagesN (number (P k)) := by unfold pagesN; omega
      simp at a
      omega
theorem entryAt_congr {P Q : Pages} {k : Nat} (h : ∀ i, k ≤ i → i < k + pagesN (number (P k)) → P i = Q i) : entryAt P k = entryAt Q k := by
  have e0 : P k = Q k := h k (Nat.le_refl _) (by unfold pagesN; omega)
  have e1 : bytesAt P k (number (P k)) = bytesAt Q k (number (P k)) := by
    unfold bytesAt
    rw [e0]
    congr 2
    refine List.map_congr_left fun i hi => ?_
    have := List.mem_range.1 hi
    exact h _ (by omega) (by rw [e0]; omega)
  unfold entryAt
  rw [e1, e0]
/-- The records from a page on, and where they end. -/
inductive Chain (P : Pages) : Nat → List (List UInt8) → Nat → Prop
  | nil (k : Nat) : Chain P k [] k
  | cons {k e z : Nat} {r : List UInt8} {l : List (List UInt8)} (hk : k < 400) (h : entryAt P k = some (r, e)) (t : Chain P e l z) : Chain P k (r :: l) z
def Stop (P : Pages) (z : Nat) : Prop := 400 ≤ z ∨ entryAt P z = none
theorem Chain.le {P : Pages} {k z : Nat} {l : List (List UInt8)} (h : Chain P k l z) : k ≤ z := by
  induction h with
  | nil => exact Nat.le_refl _
  | cons hk h t ih => have := entryAt_lt h; omega
theorem Chain.top {P : Pages} {k z : Nat} {l : List (List UInt8)} (h : Chain P k l z) (hk : k ≤ 400) : z ≤ 400 := by
  induction h with
  | nil => exact hk
  | cons _ h t ih => exact ih (entryAt_lt h).2
theorem Chain.snoc {P : Pages} {k z e : Nat} {l : List (List UInt8)} {r : List UInt8} (h : Chain P k l z) (hz : z < 400) (he : entryAt P z = some (r, e)) : Chain P k (l ++ [r]) e := by
  induction h with
  | nil k => exact .cons hz he (.nil _)
  | cons hk h t ih => exact .cons hk h (ih hz he)
theorem Chain.congr {P Q : Pages} {k z : Nat} {l : List (List UInt8)} (h : Chain P k l z) (e : ∀ i, k ≤ i → i < z → P i = Q i) : Chain Q k l z := by
  induction h with
  | nil k => exact .nil k
  | @cons k e' z r l hk h t ih =>
    have h1 := entryAt_lt h
    have h2 := t.le
    refine .cons hk ?_ (ih fun i h3 h4 => e i (by omega) h4)
    rw [← h]
    symm
    apply entryAt_congr
    intro i h3 h4
    refine e i h3 ?_
    have : k + pagesN (number (P k)) = e' := by
      unfold entryAt at h
      split at h
      · cases h
      · split at h
        · cases h
        · simp only [Option.some.injEq, Prod.mk.injEq] at h; exact h.2
    omega
theorem Chain.unique {P : Pages} {k z z' : Nat} {l l' : List (List UInt8)} (h : Chain P k l z) (hz : Stop P z) (h' : Chain P k l' z') (hz' : Stop P z') : l = l' ∧ z = z' := by
  induction h generalizing l' with
  | nil k =>
    cases h' with
    | nil => exact ⟨rfl, rfl⟩
    | cons hk h t =>
      rcases hz with hz | hz
      · omega
      · rw [hz] at h; cases h
  | cons hk h t ih =>
    cases h' with
    | nil =>
      rcases hz' with hz' | hz'
      · omega
      · rw [hz'] at h; cases h
    | cons hk' h' t' =>
      rw [h] at h'
      simp only [Option.some.injEq, Prod.mk.injEq] at h'
      obtain ⟨rfl, rfl⟩ := h'
      obtain ⟨e1, e2⟩ := ih hz t'
      exact ⟨by rw [e1], e2⟩
/-- A log has records and an end. -/
theorem chain_ex (P : Pages) : ∀ (m k : Nat), 400 - k ≤ m → ∃ l z, Chain P k l z ∧ Stop P z
  | 0, k, h => ⟨[], k, .nil k, .inl (by omega)⟩
  | m + 1, k, h => by
    rcases Nat.lt_or_ge k 400 with hk | hk
    · cases he : entryAt P k with
      | none => exact ⟨[], k, .nil k, .inr he⟩
      | some x =>
        obtain ⟨r, e⟩ := x
        have := entryAt_lt he
        obtain ⟨l, z, h1, h2⟩ := chain_ex P m e (by omega)
        exact ⟨r :: l, z, .cons hk he h1, h2⟩
    · exact ⟨[], k, .nil k, .inl hk⟩
/-- A page whose mark is not 1 holds no record. -/
theorem stop_unmarked {P : Pages} {k : Nat} (h : (P k).getD 63 0 ≠ 1) : Stop P k := by
  right; unfold entryAt; rw [if_pos (.inl h)]
theorem first_number (r : List UInt8) (h : r.length < two32) : number (firstPage r) = r.length := number_four h _
theorem first_sum (r : List UInt8) : number ((firstPage r).drop 4) = sumN r := by
  unfold firstPage
  rw [List.drop_left' (length_four _)]
  exact number_four (sumN_lt r) _
theorem first_mark (r : List UInt8) : (firstPage r).getD 63 0 = 1 := by
  unfold firstPage
  rw [List.getD_eq_getElem?_getD, List.getElem?_append_right (by simp [fourN]), List.getElem?_append_right (by simp [fourN])]
  rw [← List.append_assoc, List.getElem?_append_right (by simp [fourN, zeros]; omega)]
  simp [fourN, zeros]
  rw [show 55 - (min 55 r.length + (55 - r.length)) = 0 by omega]
  rfl
theorem first_bytes (r : List UInt8) : ((firstPage r).drop 8).take 55 = r.take 55 ++ zeros (55 - r.length) := by
  unfold firstPage
  rw [← List.append_assoc, List.drop_left' (by simp [fourN]), ← List.append_assoc, List.take_left' (by simp [zeros]; omega)]
/-- The frame of a record is read as the record. -/
theorem entry_frame {P : Pages} {k : Nat} {r : List UInt8} (hr : r.length < two32) (h0 : P k = firstPage r) (h1 : ∀ i, i < pagesN r.length - 1 → P (k + 1 + i) = (restPages r).getD i []) (hk : k + pagesN r.length ≤ 400) :
    entryAt P k = some (r, k + pagesN r.length) := by
  have en : number (P k) = r.length := by rw [h0]; exact first_number r hr
  have er : ((List.range (pagesN r.length - 1)).map fun i => P (k + 1 + i)) = restPages r := by
    apply List.ext_getElem
    · simp [restPages, length_chunks]
    · intro i h2 h3
      rw [List.getElem_map, List.getElem_range, h1 i (by simpa using h2), List.getD_eq_getElem?_getD, List.getElem?_eq_getElem h3]
      rfl
  have eb : (bytesAt P k r.length).take r.length = r := by
    unfold bytesAt
    rw [er, h0, first_bytes]
    unfold restPages
    rw [chunks_flat _ _ (by rw [List.length_drop]; unfold pagesN; omega)]
    rcases Nat.lt_or_ge r.length 55 with hl | hl
    · rw [List.take_of_length_le (show r.length ≤ 55 by omega), List.append_assoc, List.take_left' rfl]
    · rw [show 55 - r.length = 0 by omega, show zeros 0 = [] from rfl, List.append_nil, ← List.append_assoc, List.take_append_drop, List.take_left' rfl]
  unfold entryAt
  rw [en, eb, h0, first_sum, first_mark, if_neg (by simp; omega), if_neg (by simp)]
end Go.Proofs.Ytcembocnkndlhaa
/- The frame after a step of a drawn region, laid out: an operation of the list. -/
namespace Go.Proofs.Ytcembocnkndlhaa
theorem gets : (∀ (l : List Oper) (i : Nat) (h : i < l.toArray.size), l.toArray[i] = l[i]'(by simpa using h)) ∧ (∀ (x : Oper) (l : List Oper) (h : 0 < (x :: l).length), (x :: l)[0] = x) ∧ ∀ (x : Oper) (l : List Oper) (n : Nat) (h : n + 1 < (x :: l).length), (x :: l)[n + 1] = l[n]'(by simpa using h) :=
  ⟨fun _ _ _ => by simp, fun _ _ _ => rfl, fun _ _ _ _ => rfl⟩
end Go.Proofs.Ytcembocnkndlhaa
/- The walks of the log's small functions: Sum, pages, Pages, four, number, Clone. -/
namespace Go.Proofs.Ytcembocnkndlhaa
open Go.RowKit
theorem wrap_u32n (n : Int) : IntKind.u32.wrap n = n % 4294967296 := by simp [IntKind.wrap, IntKind.bits, IntKind.signed]
theorem bits_xor_u32n (a b : Nat) (ha : a < 4294967296) (hb : b < 4294967296) : bits .xor .u32 (a : Int) (b : Int) = ((a ^^^ b : Nat) : Int) := by
  have hx : a ^^^ b < 2 ^ 32 := Nat.xor_lt_two_pow (by omega) (by omega)
  have h1 : (BitVec.ofInt 32 (a : Int)).toNat = a := by
    rw [BitVec.ofInt_natCast, BitVec.toNat_ofNat]; exact Nat.mod_eq_of_lt (by omega)
  have h2 : (BitVec.ofInt 32 (b : Int)).toNat = b := by
    rw [BitVec.ofInt_natCast, BitVec.toNat_ofNat]; exact Nat.mod_eq_of_lt (by omega)
  show IntKind.u32.wrap ((BitVec.ofInt 32 (a : Int) ^^^ BitVec.ofInt 32 (b : Int)).toNat : Int) = _
  rw [BitVec.toNat_xor, h1, h2, wrap_u32n]
  omega
theorem bits_or_u32n (a b : Nat) (ha : a < 4294967296) (hb : b < 4294967296) : bits .or .u32 (a : Int) (b : Int) = ((a ||| b : Nat) : Int) := by
  have hx : a ||| b < 2 ^ 32 := Nat.or_lt_two_pow (by omega) (by omega)
  have h1 : (BitVec.ofInt 32 (a : Int)).toNat = a := by
    rw [BitVec.ofInt_natCast, BitVec.toNat_ofNat]; exact Nat.mod_eq_of_lt (by omega)
  have h2 : (BitVec.ofInt 32 (b : Int)).toNat = b := by
    rw [BitVec.ofInt_natCast, BitVec.toNat_ofNat]; exact Nat.mod_eq_of_lt (by omega)
  show IntKind.u32.wrap ((BitVec.ofInt 32 (a : Int) ||| BitVec.ofInt 32 (b : Int)).toNat : Int) = _
  rw [BitVec.toNat_or, h1, h2, wrap_u32n]
  omega
theorem sumFrom_nil (h : Nat) : sumFrom h [] = h := by unfold sumFrom; rw [List.foldl_nil]
theorem sumN_take {l : List UInt8} {k : Nat} (h : k < l.length) : sumN (l.take (k + 1)) = sumStep (sumN (l.take k)) l[k] := by
  rw [List.take_succ_eq_append_getElem h, sumN_append, sumFrom_cons, sumFrom_nil]
theorem IsBytes.at_ {w : World} {a : Option Addr} {n c : Nat} {l : List UInt8} (h : IsBytes w (.slice a n c) l) {i : Nat} {x : UInt8} (hi : l[i]? = some x) : ∃ b off, a = some ⟨b, off, none⟩ ∧ w.cell? ⟨b, off + i, none⟩ = some (.int .u8 x.toNat) := by
  obtain ⟨a', c', e, h1, hm⟩ := h
  injection e with e1 e2 e3
  subst e1
  exact h1.one hi rfl
set_option maxHeartbeats 2000000 in
set_option maxRecDepth 100000 in
theorem Sum_any (v : Value) (l : List UInt8) (w : World) (h : IsBytes w v l) : Calls Try.prog 46 #[v] w fun e w' => e = .returned (.int .u32 (sumN l)) ∧ w = w' := by
  have h0 := h
  obtain ⟨a, c, rfl, -, hm⟩ := h
  go_enter Try.func46, Try.ntmps46
  go_wp2
  go_loop [8, 3, 5] (fun i hv _ => ∃ k : Nat, k ≤ l.length ∧ i = .int .i64 k ∧ hv = .int .u32 (sumN (l.take k))) (fun i _ _ => l.length - (intOf i).toNat)
  case atStart => exact ⟨0, Nat.zero_le _, rfl, rfl⟩
  case round =>
    obtain ⟨k, hk, rfl, rfl⟩ := hrel
    by_cases hlt : k < l.length
    · have hd : decide (k < l.length) = true := decide_eq_true hlt
      obtain ⟨b, off, rfl, hc⟩ := h0.at_ (List.getElem?_eq_getElem hlt)
      have HS := Lib.hid (sumN_take hlt)
      have hs := sumN_lt (l.take k)
      unfold two32 at hs
      generalize l[k] = x at *
      generalize sumN (l.take k) = s at *
      have hx8 : x.toNat < 256 := x.toNat_lt
      have HX := bits_xor_u32n s x.toNat hs (by omega)
      have hlx : s ^^^ x.toNat < 4294967296 := xor_lt (h := s) (c := x) hs
      have HV := Lib.hid (show ((s ^^^ x.toNat : Nat) : Int) * 16777619 % 4294967296 = (sumStep s x : Int) by unfold sumStep two32; omega)
      have hkI : (k : Int) < (l.length : Int) := by omega
      have hk0 : (0 : Int) ≤ (k : Int) := by omega
      have hwx : IntKind.u32.wrap (x.toNat : Int) = (x.toNat : Int) := by simp only [wrap_u32n]; omega
      generalize s ^^^ x.toNat = y at *
      go_wp2
      go_round
      case rel => exact ⟨k + 1, by omega, by go_num, by rw [HS.out, ← HV.out]⟩
      case measure => simp [intOf]; omega
    · have e : k = l.length := by omega
      subst e
      have hd : decide (l.length < l.length) = false := decide_eq_false hlt
      rw [List.take_length]
      go_wp2
      go_ret
      exact ⟨rfl, rfl⟩
set_option maxHeartbeats 2000000 in
theorem pages_any (n : Nat) (w : World) (hn : n < 4611686018427387904) : Calls Try.prog 72 #[.int .i64 n] w fun e w' => e = .returned (.int .i64 (pagesN n)) ∧ w = w' := by
  go_enter Try.func72, Try.ntmps72
  go_wp2
  all_goals
    go_ret
    exact ⟨ret_int (by unfold pagesN; omega), rfl⟩
set_option maxHeartbeats 2000000 in
theorem Pages_any (v : Value) (l : List UInt8) (w : World) (h : IsBytes w v l) (hl : l.length < 4611686018427387904) : Calls Try.prog 44 #[v] w fun e w' => e = .returned (.int .i64 (pagesN l.length)) ∧ w = w' := by
  obtain ⟨a, c, rfl, -, hm⟩ := h
  go_enter Try.func44, Try.ntmps44
  go_wp2_with fail
  refine (pages_any l.length _ hl).mono ?_
  rintro e w1 ⟨rfl, rfl⟩
  go_wp2
  go_ret
  exact ⟨rfl, rfl⟩
theorem byte_val (n : Nat) : ((UInt8.ofNat n).toNat : Int) = (n : Int) % 256 := by simp [UInt8.toNat_ofNat']
def FourRet (n : Nat) (w : World) (e : Ending) (w' : World) : Prop := e = .returned (.slice (some ⟨w.heap.size, 0, none⟩) 4 4) ∧ w' = w.alloc (.cells (bytesV (fourN n)).toArray 5)
set_option maxHeartbeats 2000000 in
set_option maxRecDepth 100000 in
theorem four_any (n : Nat) (w : World) (hn : n < two32) : Calls Try.prog 68 #[.int .u32 n] w (FourRet n w) := by
  unfold two32 at hn
  have H := Lib.hid (show (bytesV (fourN n)).toArray = #[.int .u8 ((n : Int) % 256), .int .u8 ((n : Int) / 256 % 256), .int .u8 ((n : Int) / 65536 % 256), .int .u8 ((n : Int) / 16777216)] by
    unfold fourN bytesV
    simp only [List.map_cons, List.map_nil, byte_val, Int.natCast_ediv]
    rw [show ((n : Int) / ((16777216 : Nat) : Int)) % 256 = (n : Int) / 16777216 by omega]
    rfl)
  go_enter Try.func68, Try.ntmps68
  go_wp2
  rw [← H.out]
  go_ret
  exact ⟨rfl, rfl⟩
theorem wrap_u32_id {n : Nat} (h : n < 4294967296) : IntKind.u32.wrap (n : Int) = (n : Int) := by simp only [wrap_u32n]; omega
theorem shl_u32 (x m : Nat) (h : x * m < 4294967296) : ∃ y : Nat, IntKind.u32.wrap ((x : Int) * (m : Int)) = (y : Int) ∧ y = x * m :=
  ⟨x * m, by rw [← Int.natCast_mul]; exact wrap_u32_id h, rfl⟩
theorem or_u32 {i x y q : Nat} (hx : x < 2 ^ i) (hy : y = q * 2 ^ i) (hs : x + y < 4294967296) : bits .or .u32 (x : Int) (y : Int) = ((x + y : Nat) : Int) := by
  rw [bits_or_u32n x y (by omega) (by omega), hy, ← Nat.shiftLeft_eq, Nat.or_comm, ← Nat.shiftLeft_add_eq_or_of_lt hx, Nat.add_comm]
set_option maxHeartbeats 2000000 in
set_option maxRecDepth 100000 in
theorem number_any (v : Value) (l : List UInt8) (w : World) (h : IsBytes w v l) (hl : 4 ≤ l.length) : Calls Try.prog 82 #[v] w fun e w' => e = .returned (.int .u32 (number l)) ∧ ∃ k, w' = w.drewN k := by
  have h0 := h
  obtain ⟨a, c, rfl, -, hm⟩ := h
  obtain ⟨b, off, rfl, hc0⟩ := h0.at_ (List.getElem?_eq_getElem (i := 0) (by omega))
  obtain ⟨b', off', hx, hc1⟩ := h0.at_ (List.getElem?_eq_getElem (i := 1) (by omega)); cases hx
  obtain ⟨b', off', hx, hc2⟩ := h0.at_ (List.getElem?_eq_getElem (i := 2) (by omega)); cases hx
  obtain ⟨b', off', hx, hc3⟩ := h0.at_ (List.getElem?_eq_getElem (i := 3) (by omega)); cases hx
  have HN := Lib.hid (show number l = l[0].toNat + 256 * l[1].toNat + 65536 * l[2].toNat + 16777216 * l[3].toNat by
    unfold number; simp only [List.getD_eq_getElem?_getD, List.getElem?_eq_getElem (show 0 < l.length by omega), List.getElem?_eq_getElem (show 1 < l.length by omega), List.getElem?_eq_getElem (show 2 < l.length by omega), List.getElem?_eq_getElem (show 3 < l.length by omega), Option.getD_some])
  have k0 := l[0].toNat_lt; have k1 := l[1].toNat_lt; have k2 := l[2].toNat_lt; have k3 := l[3].toNat_lt
  obtain ⟨x0, e0⟩ : ∃ x, l[0].toNat = x := ⟨_, rfl⟩
  obtain ⟨x1, e1⟩ : ∃ x, l[1].toNat = x := ⟨_, rfl⟩
  obtain ⟨x2, e2⟩ : ∃ x, l[2].toNat = x := ⟨_, rfl⟩
  obtain ⟨x3, e3⟩ : ∃ x, l[3].toNat = x := ⟨_, rfl⟩
  rw [e0] at hc0 k0 HN
  rw [e1] at hc1 k1 HN
  rw [e2] at hc2 k2 HN
  rw [e3] at hc3 k3 HN
  clear e0 e1 e2 e3
  have w0 := wrap_u32_id (n := x0) (by omega)
  have w1 := wrap_u32_id (n := x1) (by omega)
  have w2 := wrap_u32_id (n := x2) (by omega)
  have w3 := wrap_u32_id (n := x3) (by omega)
  obtain ⟨y1, v1, u1⟩ := shl_u32 x1 256 (by omega)
  obtain ⟨y2, v2, u2⟩ := shl_u32 x2 65536 (by omega)
  obtain ⟨y3, v3, u3⟩ := shl_u32 x3 16777216 (by omega)
  have o1 := or_u32 (i := 8) (x := x0) (y := y1) (q := x1) k0 u1 (by omega)
  have o2 := or_u32 (i := 16) (x := x0 + y1) (y := y2) (q := x2) (by omega) u2 (by omega)
  have o3 := or_u32 (i := 24) (x := x0 + y1 + y2) (y := y3) (q := x3) (by omega) u3 (by omega)
  obtain ⟨z1, hz1⟩ : ∃ z, x0 + y1 = z := ⟨_, rfl⟩
  rw [hz1] at o1 o2 o3
  obtain ⟨z2, hz2⟩ : ∃ z, z1 + y2 = z := ⟨_, rfl⟩
  rw [hz2] at o2 o3
  obtain ⟨z3, hz3⟩ : ∃ z, z2 + y3 = z := ⟨_, rfl⟩
  rw [hz3] at o3
  have HZ := Lib.hid (show z3 = number l by rw [HN.out]; omega)
  have j0 : 0 < l.length := by omega
  have j1 : 1 < l.length := by omega
  have j2 : 2 < l.length := by omega
  have j3 : 3 < l.length := by omega
  clear hz1 hz2 hz3 u1 u2 u3 HN
  have hl0 : (0 : Int) < (l.length : Int) := by omega
  have hl1 : (1 : Int) < (l.length : Int) := by omega
  have hl2 : (2 : Int) < (l.length : Int) := by omega
  have hl3 : (3 : Int) < (l.length : Int) := by omega
  go_enter Try.func82, Try.ntmps82
  go_wp2
  refine wp_region_noPanic ?_
  refine wp_region_late (fun w' => w'.cell? ⟨b, off, none⟩ = some (.int .u8 x0) ∧ w'.cell? ⟨b, off + 1, none⟩ = some (.int .u8 x1) ∧ w'.cell? ⟨b, off + 2, none⟩ = some (.int .u8 x2) ∧ w'.cell? ⟨b, off + 3, none⟩ = some (.int .u8 x3)) 23 (by kernel_rfl) (⟨hc0, hc1, hc2, hc3⟩) (fun hHeld => ?_)
  refine any_take (by kernel_rfl) (i := 0) (oi := _) (v := ?_) rfl rfl (by kernel_rfl) (by kernel_rfl) (by kernel_rfl) (fun _ _ _ h => h) (Or.inl ⟨by rfl, ?_⟩) hHeld ?_
  rotate_left
  · intro w' hSw; try dsimp only at hSw
    go_simp
    try with_reducible rfl
  try simp only [puts, gets]
  refine any_take (by kernel_rfl) (i := 1) (oi := _) (v := ?_) rfl rfl (by kernel_rfl) (by kernel_rfl) (by kernel_rfl) (fun _ _ _ h => h) (Or.inl ⟨by rfl, ?_⟩) hHeld ?_
  rotate_left
  · intro w' hSw; try dsimp only at hSw
    go_simp
    try with_reducible rfl
  try simp only [puts, gets]
  refine any_take (by kernel_rfl) (i := 2) (oi := _) (v := ?_) rfl rfl (by kernel_rfl) (by kernel_rfl) (by kernel_rfl) (fun _ _ _ h => h) (Or.inl ⟨by rfl, ?_⟩) hHeld ?_
  rotate_left
  · intro w' hSw; try dsimp only at hSw
    go_simp
    try with_reducible rfl
  try simp only [puts, gets]
  refine any_take (by kernel_rfl) (i := 3) (oi := _) (v := ?_) rfl rfl (by kernel_rfl) (by kernel_rfl) (by kernel_rfl) (fun _ _ _ h => h) (Or.inl ⟨by rfl, ?_⟩) hHeld ?_
  rotate_left
  · intro w' hSw; try dsimp only at hSw
    go_simp
    try with_reducible rfl
  try simp only [puts, gets]
  refine any_take (by kernel_rfl) (i := 4) (oi := _) (v := ?_) rfl rfl (by kernel_rfl) (by kernel_rfl) (by kernel_rfl) (fun _ _ _ h => h) (Or.inl ⟨by rfl, ?_⟩) hHeld ?_
  rotate_left
  · intro w' hSw; try dsimp only at hSw
    go_simp
    try with_reducible rfl
  try simp only [puts, gets]
  refine any_take (by kernel_rfl) (i := 5) (oi := _) (v := ?_) rfl rfl (by kernel_rfl) (by kernel_rfl) (by kernel_rfl) (fun _ _ _ h => h) (Or.inl ⟨by rfl, ?_⟩) hHeld ?_
  rotate_left
  · intro w' hSw; try dsimp only at hSw
    go_simp
    try with_reducible rfl
  try simp only [puts, gets]
  refine any_take (by kernel_rfl) (i := 6) (oi := _) (v := ?_) rfl rfl (by kernel_rfl) (by kernel_rfl) (by kernel_rfl) (fun _ _ _ h => h) (Or.inl ⟨by rfl, ?_⟩) hHeld ?_
  rotate_left
  · intro w' hSw; try dsimp only at hSw
    go_simp
    try with_reducible rfl
  try simp only [puts, gets]
  refine any_take (by kernel_rfl) (i := 7) (oi := _) (v := ?_) rfl rfl (by kernel_rfl) (by kernel_rfl) (by kernel_rfl) (fun _ _ _ h => h) (Or.inl ⟨by rfl, ?_⟩) hHeld ?_
  rotate_left
  · intro w' hSw; try dsimp only at hSw
    go_simp
    try with_reducible rfl
  try simp only [puts, gets]
  refine any_take (by kernel_rfl) (i := 8) (oi := _) (v := ?_) rfl rfl (by kernel_rfl) (by kernel_rfl) (by kernel_rfl) (fun _ _ _ h => h) (Or.inl ⟨by rfl, ?_⟩) hHeld ?_
  rotate_left
  · intro w' hSw; try dsimp only at hSw
    go_simp
    try with_reducible rfl
  try simp only [puts, gets]
  refine any_take (by kernel_rfl) (i := 9) (oi := _) (v := ?_) rfl rfl (by kernel_rfl) (by kernel_rfl) (by kernel_rfl) (fun _ _ _ h => h) (Or.inl ⟨by rfl, ?_⟩) hHeld ?_
  rotate_left
  · intro w' hSw; try dsimp only at hSw
    go_simp
    try with_reducible rfl
  try simp only [puts, gets]
  refine any_take (by kernel_rfl) (i := 10) (oi := _) (v := ?_) rfl rfl (by kernel_rfl) (by kernel_rfl) (by kernel_rfl) (fun _ _ _ h => h) (Or.inl ⟨by rfl, ?_⟩) hHeld ?_
  rotate_left
  · intro w' hSw; try dsimp only at hSw
    go_simp
    try with_reducible rfl
  try simp only [puts, gets]
  refine any_take (by kernel_rfl) (i := 11) (oi := _) (v := ?_) rfl rfl (by kernel_rfl) (by kernel_rfl) (by kernel_rfl) (fun _ _ _ h => h) (Or.inl ⟨by rfl, ?_⟩) hHeld ?_
  rotate_left
  · intro w' hSw; try dsimp only at hSw
    go_simp
    try with_reducible rfl
  try simp only [puts, gets]
  refine any_take (by kernel_rfl) (i := 12) (oi := _) (v := ?_) rfl rfl (by kernel_rfl) (by kernel_rfl) (by kernel_rfl) (fun _ _ _ h => h) (Or.inl ⟨by rfl, ?_⟩) hHeld ?_
  rotate_left
  · intro w' hSw; try dsimp only at hSw
    go_simp
    try with_reducible rfl
  try simp only [puts, gets]
  refine any_take (by kernel_rfl) (i := 13) (oi := _) (v := ?_) rfl rfl (by kernel_rfl) (by kernel_rfl) (by kernel_rfl) (fun _ _ _ h => h) (Or.inl ⟨by rfl, ?_⟩) hHeld ?_
  rotate_left
  · intro w' hSw; try dsimp only at hSw
    go_simp
    try with_reducible rfl
  try simp only [puts, gets]
  refine any_take (by kernel_rfl) (i := 14) (oi := _) (v := ?_) rfl rfl (by kernel_rfl) (by kernel_rfl) (by kernel_rfl) (fun _ _ _ h => h) (Or.inl ⟨by rfl, ?_⟩) hHeld ?_
  rotate_left
  · intro w' hSw; try dsimp only at hSw
    go_simp
    try with_reducible rfl
  try simp only [puts, gets]
  refine any_take (by kernel_rfl) (i := 15) (oi := _) (v := ?_) rfl rfl (by kernel_rfl) (by kernel_rfl) (by kernel_rfl) (fun _ _ _ h => h) (Or.inl ⟨by rfl, ?_⟩) hHeld ?_
  rotate_left
  · intro w' hSw; try dsimp only at hSw
    go_simp
    try with_reducible rfl
  try simp only [puts, gets]
  refine any_take (by kernel_rfl) (i := 16) (oi := _) (v := ?_) rfl rfl (by kernel_rfl) (by kernel_rfl) (by kernel_rfl) (fun _ _ _ h => h) (Or.inl ⟨by rfl, ?_⟩) hHeld ?_
  rotate_left
  · intro w' hSw; try dsimp only at hSw
    go_simp
    try with_reducible rfl
  try simp only [puts, gets]
  refine any_take (by kernel_rfl) (i := 17) (oi := _) (v := ?_) rfl rfl (by kernel_rfl) (by kernel_rfl) (by kernel_rfl) (fun _ _ _ h => h) (Or.inl ⟨by rfl, ?_⟩) hHeld ?_
  rotate_left
  · intro w' hSw; try dsimp only at hSw
    go_simp
    try with_reducible rfl
  try simp only [puts, gets]
  refine any_take (by kernel_rfl) (i := 18) (oi := _) (v := ?_) rfl rfl (by kernel_rfl) (by kernel_rfl) (by kernel_rfl) (fun _ _ _ h => h) (Or.inl ⟨by rfl, ?_⟩) hHeld ?_
  rotate_left
  · intro w' hSw; try dsimp only at hSw
    go_simp
    try with_reducible rfl
  try simp only [puts, gets]
  refine any_take (by kernel_rfl) (i := 19) (oi := _) (v := ?_) rfl rfl (by kernel_rfl) (by kernel_rfl) (by kernel_rfl) (fun _ _ _ h => h) (Or.inl ⟨by rfl, ?_⟩) hHeld ?_
  rotate_left
  · intro w' hSw; try dsimp only at hSw
    go_simp
    try with_reducible rfl
  try simp only [puts, gets]
  refine any_take (by kernel_rfl) (i := 20) (oi := _) (v := ?_) rfl rfl (by kernel_rfl) (by kernel_rfl) (by kernel_rfl) (fun _ _ _ h => h) (Or.inl ⟨by rfl, ?_⟩) hHeld ?_
  rotate_left
  · intro w' hSw; try dsimp only at hSw
    go_simp
    try with_reducible rfl
  try simp only [puts, gets]
  refine any_take (by kernel_rfl) (i := 21) (oi := _) (v := ?_) rfl rfl (by kernel_rfl) (by kernel_rfl) (by kernel_rfl) (fun _ _ _ h => h) (Or.inl ⟨by rfl, ?_⟩) hHeld ?_
  rotate_left
  · intro w' hSw; try dsimp only at hSw
    go_simp
    try with_reducible rfl
  try simp only [puts, gets]
  refine any_take (by kernel_rfl) (i := 22) (oi := _) (v := ?_) rfl rfl (by kernel_rfl) (by kernel_rfl) (by kernel_rfl) (fun _ _ _ h => h) (Or.inl ⟨by rfl, ?_⟩) hHeld ?_
  rotate_left
  · intro w' hSw; try dsimp only at hSw
    go_simp
    try with_reducible rfl
  try simp only [puts, gets]
  refine any_done (by kernel_rfl) ?_ _
  refine NoPanic.normal ?_
  go_wp2
  go_ret
  have v1' : IntKind.u32.wrap ((x1 : Int) * 256) = (y1 : Int) := v1
  have v2' : IntKind.u32.wrap ((x2 : Int) * 65536) = (y2 : Int) := v2
  have v3' : IntKind.u32.wrap ((x3 : Int) * 16777216) = (y3 : Int) := v3
  exact ⟨ret_int (by rw [v1', v2', v3', o1, o2, o3, HZ.out]), ⟨1, rfl⟩⟩
set_option maxHeartbeats 2000000 in
set_option maxRecDepth 100000 in
theorem Clone_any (b off n c : Nat) (l : List UInt8) (w : World) (h : IsBytes w (.slice (some ⟨b, off, none⟩) n c) l) (hl : l.length ≤ 1000000) :
    Calls Try.prog 83 #[.slice (some ⟨b, off, none⟩) n c] w fun e w' => ∃ u, e = .returned u ∧ OwnB w' w.heap.size u l ∧ Below w.heap.size w w' := by
  obtain ⟨i0, hi, hz0, hz1, hz2⟩ := info_parts info5
  have h0 : (w.alloc (.cells #[] 5)).ownsRow w.heap.size 5 1 (.slice (some ⟨w.heap.size, 0, none⟩) 0 0) 0 [] := World.ownsRow_lit w #[] 0 (Nat.le_refl _) (by decide) rfl
  have b0 := below_new w (.cells #[] 5)
  have hx := h.keep b0
  have h1 := bytes_one l
  have heq := fun (w : World) (a : Option Addr) (l c : Nat) => Lib.run_eql_slice_nil (P := Try.prog) w 26 5 a l c 0 0 Try.underlying26
  go_enter Try.func83, Try.ntmps83
  go_wp2_with (at_builtin; refine wpList_append_rows rfl encB _ _ 26 rfl w.heap.size 5 i0 (.int .u8 0) 1 1 Try.underlying26 hi hz0 hz1 hz2 rfl (by decide) _ _ _ rfl h0 _ l rfl hx (fun _ _ => rfl) h1 (by unfold maxLen; omega) (by omega) (by simp) ?_; intro v1 w1 hown1 hgrow1 hat1)
  have hb1 : Below w.heap.size w w1 := b0.grown hgrow1 (by simp) (own_from h0)
  have hO1 : OwnB w1 w.heap.size v1 l := by
    refine ⟨?_, ?_⟩
    · have := hown1; rw [flat_bytes] at this; simpa using this
    · rintro rfl
      rcases hat1 with h | h
      · cases h
      · cases h
  go_ret
  exact ⟨_, rfl, hO1, hb1⟩
end Go.Proofs.Ytcembocnkndlhaa
/- append(x, make([]byte, k)...) of a slice that the call owns: both arms. -/
namespace Go.Proofs.Ytcembocnkndlhaa
open Go.RowKit
theorem zeroCells_u8 (k : Nat) : Builtin.zeroCells (Value.int .u8 0).cells k = (List.replicate k (Value.int .u8 0)).toArray := by
  have h1 : (Value.int IntKind.u8 0).cells.size = 1 := rfl
  apply Array.ext
  · simp [Builtin.zeroCells, h1]
  · intro i a b
    simp only [Builtin.zeroCells, h1, Array.getElem_map, List.getElem_toArray, List.getElem_replicate, Nat.mod_one]
    rfl
theorem run_append_room_zeros {P : Program} (w : World) (t tn ty e : TypeId) (i : TypeInfo) (kq kn : IntKind) (ht : P.underlying t = some (.slice e)) (htn : P.underlying tn = some (.int kn)) (hi : P.info? e = some i) (hz : i.zero = some (.int .u8 0)) (hs1 : i.size = 1) (hby : i.bytes = 1)
    (g sLen sCap : Nat) (cur : Array Value) (hg : w.heap[g]? = some (.cells cur e (0, 0))) (k : Nat) (h0 : 0 < k) (hk : k ≤ 281474976710656) (hroom : sLen + k ≤ sCap) (hfit : sLen + k ≤ cur.size) :
    (Builtin.append_ #[t, tn] ty #[.slice (some ⟨g, 0, none⟩) sLen sCap, .int kq k]).run P w =
      .ok (.slice (some ⟨g, 0, none⟩) (sLen + k) sCap) (w.setRow g (cur.toList.take sLen ++ List.replicate k (Value.int .u8 0) ++ cur.toList.drop (sLen + k)).toArray) := by
  have hst := run_storeCells_at P g sLen e (List.replicate k (Value.int .u8 0)) 0 cur w hg (by simpa using hfit) (by intro v hv; rw [(List.mem_replicate.1 hv).2]; rfl)
  simp only [Nat.add_zero, List.length_replicate] at hst
  have hw : IntKind.i64.wrap (k : Int) = k := by rw [IntKind.wrap_i64]; omega
  have hneg : ¬ ((k : Int) < 0) := by omega
  have h48i : ¬ (281474976710656 < (k : Int)) := by omega
  have hk0 : k ≠ 0 := by omega
  simp [Builtin.append_, run_underlying ht, run_underlying htn, sizeOf, typeInfo, zeroValue, hi, hz, hs1, hby, asInt, asIntOf, hw, hneg, h48i, hk0, hroom, Addr.add_lit, zeroCells_u8, hst]
theorem run_append_own_zeros {P : Program} (w : World) (base : Nat) (t tn ty e : TypeId) (i : TypeInfo) (kq kn : IntKind) (ht : P.underlying t = some (.slice e)) (htn : P.underlying tn = some (.int kn)) (hi : P.info? e = some i) (hz : i.zero = some (.int .u8 0))
    (hsize : i.size = 1) (hby : i.bytes = 1) (v : Value) (n : Nat) (xs : List Value) (hown : w.ownsRow base e 1 v n xs) (k : Nat) (h0 : 0 < k)
    (h63 : n + k ≤ maxLen) (hbytes : n + k ≤ 140737488355328) (hbase : base ≤ w.heap.size) :
    ∃ v' w', (Builtin.append_ #[t, tn] ty #[v, .int kq k]).run P w = .ok v' w' ∧ w'.ownsRow base e 1 v' (n + k) (xs ++ List.replicate k (Value.int .u8 0)) ∧ w.grownBy w' v.ownBlock := by
  have hsmall : n + k ≤ 9223372036854775807 := by simp only [maxLen] at h63; omega
  have hxl : xs.length = n := by simpa using hown.1
  have hlen : (xs ++ List.replicate k (Value.int .u8 0)).length = (n + k) * 1 := by rw [List.length_append, hxl, List.length_replicate, Nat.mul_one]
  have grown : ∀ (old : Nat), old < n + k → ∀ (row : Option Nat),
      (w.drew.alloc (.cells (xs.toArray ++ Builtin.zeroCells (Value.int .u8 0).cells k ++ Builtin.zeroCells (Value.int .u8 0).cells (grownCap w (n + k) old e - (n + k))) e)).ownsRow base e 1
        (.slice (some ⟨w.heap.size, 0, none⟩) (n + k) (grownCap w (n + k) old e)) (n + k) (xs ++ List.replicate k (Value.int .u8 0)) ∧
      w.grownBy (w.drew.alloc (.cells (xs.toArray ++ Builtin.zeroCells (Value.int .u8 0).cells k ++ Builtin.zeroCells (Value.int .u8 0).cells (grownCap w (n + k) old e - (n + k))) e)) row := by
    intro old ho row
    have hge := grownCap_ge w (n + k) old e
    have hcm : grownCap w (n + k) old e ≤ maxLen := grownCap_le_maxLen w (n + k) old e h63
    refine ⟨⟨hlen, .inr ⟨w.heap.size, _, _, rfl, hbase, heap_alloc_new w.drew _, hge, hcm, ?_, ?_⟩⟩, ⟨rfl, rfl, rfl, by simp, fun q hq _ => heap_alloc_old w.drew _ hq⟩⟩
    · simp only [zeroCells_u8, Array.size_append, List.size_toArray, List.length_replicate, hxl]
      omega
    · simp only [zeroCells_u8, Array.toList_append, List.append_assoc]
      rw [← List.append_assoc, ← hlen]
      exact List.take_left
  rcases hown.2 with ⟨rfl, rfl⟩ | ⟨g, cap, cur, rfl, hbg, hg, hnc, hcm, hcs, htake⟩
  · have hx : xs = [] := List.eq_nil_of_length_eq_zero hxl
    subst hx
    have hr := Lib.run_append_nil_zeros w t tn ty e i (.int .u8 0) kq kn ht htn hi hz k h0 (by omega) (by omega) (by rw [hby]; omega)
    have hgr := grown 0 (by omega) (Value.ownBlock (.slice none 0 0))
    simp only [Nat.zero_add, List.nil_append, Array.empty_append] at hgr ⊢
    exact ⟨_, _, hr, hgr.1, hgr.2⟩
  · by_cases hroom : n + k ≤ cap
    · have hcs' : cur.size = cap := by simpa using hcs
      have hr := run_append_room_zeros w t tn ty e i kq kn ht htn hi hz hsize hby g n cap cur hg k h0 (by omega) hroom (by omega)
      refine ⟨_, _, hr, ⟨hlen, .inr ⟨g, cap, _, rfl, hbg, setRow_heap w g cur _ e _ hg, hroom, hcm, ?_, ?_⟩⟩, ⟨rfl, rfl, rfl, by simp, fun k _ hk => setRow_other w g k _ (fun e => hk (by simp [Value.ownBlock, e]))⟩⟩
      · simp only [List.size_toArray, List.length_append, List.length_take, List.length_drop, Array.length_toList, List.length_replicate]
        omega
      · have ht' : cur.toList.take n = xs := by simpa using htake
        rw [ht', ← hlen]
        exact List.take_left
    · have holds : ∀ j u, xs[j]? = some u → w.cell? ((⟨g, 0, none⟩ : Addr).add j) = some u := hown.cells (g := g) rfl
      have hf : (Builtin.firstCells i.size n (.slice (some ⟨g, 0, none⟩) n cap)).run P w.drew = .ok xs.toArray w.drew := run_firstCells_some (P := P) w.drew i.size n ⟨g, 0, none⟩ n cap xs (by rw [hsize]; simpa using hxl) (by simpa using holds)
      have hr := Lib.run_append_grow_zeros w t tn ty e i (.int .u8 0) kq kn ht htn hi hz (some ⟨g, 0, none⟩) n cap xs hf k h0 (by omega) (by omega) (by omega) (by rw [hby]; omega) (by rw [hby]; exact growslice_fits (by omega) (by omega))
      have hgr := grown cap (by omega) (Value.ownBlock (.slice (some ⟨g, 0, none⟩) n cap))
      exact ⟨_, _, hr, hgr.1, hgr.2⟩
end Go.Proofs.Ytcembocnkndlhaa
/- The walk of Backward over rows of bytes. -/
namespace Go.Proofs.Ytcembocnkndlhaa
open Go.RowKit Go.Shelf
attribute [local go_sem] Oper.semAt_some
section
variable {len : Nat} (fa : Fin len → Option Addr) (fl fc : Fin len → Nat)
def encP (i : Fin len) : Array Value := #[.int .i64 (i.1 : Int), .slice (fa i) (fl i) (fc i)]
set_option maxRecDepth 100000 in
set_option maxHeartbeats 2000000 in
theorem back2_in (l Bs : Nat) (sa : Option Addr) (cap : Nat) (hcap : len ≤ cap) (hcap2 : cap ≤ 9223372036854775807) (J : List (Fin len) → World → Prop) (Kp : World → World → Prop) (hKr : ∀ W, Kp W W) (hKt : ∀ {A B C : World}, Kp A B → Kp B C → Kp A C)
    (hY : ∀ pre (x : Fin len) A, J pre A → pre.length < len → YieldAt Fence.wide 2 Try.prog l (encP fa fl fc x) A fun e B => e = .returned (.bool true) ∧ J (pre ++ [x]) B ∧ Kp A B)
    (W : World) (hBs : ∀ W', Kp W W' → W'.cell? ⟨Bs, 0, none⟩ = some (.slice sa len cap)) (hc : ∀ (i : Fin len) W', Kp W W' → ∃ b off, sa = some ⟨b, off, none⟩ ∧ W'.cell? ⟨b, off + i.1, none⟩ = some (.slice (fa i) (fl i) (fc i))) (h0 : J [] W) :
    CallsIn Fence.wide 3 Try.prog 86 #[.func (.yield l) #[] #[], .pointer (some ⟨Bs, 0, none⟩)] W fun e W' => (∃ v, e = .returned v) ∧ ∃ ys, ys = down len 0 ∧ J ys W' := by
  refine callsIn_of_wp Try.func86 rfl trivial ?_ rfl
  simp only [Try.ntmps86, List.size_toArray, List.length_cons, List.length_nil, Nat.reduceAdd, Nat.reduceSub, Array.replicate_succ, Array.replicate_zero, List.push_toArray, List.append_toArray, List.nil_append, List.cons_append]
  have hb0 := hBs W (hKr W)
  gi_wp2
  gi_loopw [3] (fun i wr => ∃ (k : Nat) (z : Int), k ≤ len ∧ Hid (z = (k : Int) - 1) ∧ i = .int .i64 z ∧ J (down len k) wr ∧ Kp W wr)
    (fun i _ => (intOf i + 1).toNat)
  case atStart => exact ⟨len, _, Nat.le_refl _, Lib.hid rfl, rfl, by rw [down_top]; exact h0, hKr _⟩
  case round =>
    obtain ⟨k, z, hk, hz, rfl, hJs, hnx⟩ := hrel
    cases k with
    | zero =>
      obtain rfl : z = -1 := by have := hz.out; omega
      gi_wp2
      go_end0
      exact ⟨⟨_, rfl⟩, _, rfl, hJs⟩
    | succ j =>
      obtain rfl : z = (j : Int) := by have := hz.out; omega
      have hjl : j < len := by omega
      have hBx := hBs wr hnx
      obtain ⟨b, off, rfl, c0⟩ := hc ⟨j, hjl⟩ wr hnx
      dsimp only at c0
      obtain ⟨fn, tmps, assign, body, hy, hR⟩ := hY _ ⟨j, hjl⟩ wr hJs (by rw [down_length]; omega)
      rw [← down_succ hjl] at hR
      unfold encP at hy
      dsimp only at hy
      have hj0 : (0 : Int) ≤ (j : Int) := by omega
      gi_wp2
      refine hR.mono ?_
      rintro e W3 ⟨rfl, hJ3, hk3⟩
      gi_wp2
      go_roundw
      case rel => exact ⟨j, _, by omega, Lib.hid rfl, rfl, hJ3, hKt hnx hk3⟩
      case measure => simp [intOf]
theorem back_told (Bs : Nat) (sa : Option Addr) (cap : Nat) (hcap : len ≤ cap) (hcap2 : cap ≤ 9223372036854775807) (Kp : World → World → Prop) (hKr : ∀ W, Kp W W) (hKt : ∀ {A B C : World}, Kp A B → Kp B C → Kp A C) (w : World)
    (hBs : ∀ W W', Below w.heap.size w W → Kp W W' → W'.cell? ⟨Bs, 0, none⟩ = some (.slice sa len cap)) (hc : ∀ (i : Fin len) W W', Below w.heap.size w W → Kp W W' → ∃ b off, sa = some ⟨b, off, none⟩ ∧ W'.cell? ⟨b, off + i.1, none⟩ = some (.slice (fa i) (fl i) (fc i))) :
    SeqTold Fence.wide 3 Try.prog 86 #[.pointer (some ⟨Bs, 0, none⟩)] (encP fa fl fc) Kp (fun ys _ => ys = down len 0) len w := fun l J W hW _ hY h0 =>
  back2_in fa fl fc l Bs sa cap hcap hcap2 J Kp hKr hKt hY W (fun W' h => hBs W W' hW h) (fun i W' h => hc i W W' hW h) h0
end
theorem back22_any (a : Option Addr) (n c : Nat) (w : World) :
    Calls Try.prog 71 #[.slice a n c] w fun e w' => e = .returned (.func (.func 86) #[] #[.pointer (some ⟨w.heap.size, 0, none⟩)]) ∧ w' = w.alloc (.cells #[.slice a n c] 22) := by
  go_enter Try.func71, Try.ntmps71
  go_wp2
  go_ret
  exact ⟨rfl, rfl⟩
end Go.Proofs.Ytcembocnkndlhaa
/- Logs on disks: what appending writes, what is read then, and after crashes. -/
namespace Go.Proofs.Ytcembocnkndlhaa
/-- What Read sees of the page k among some writes, later ones first. -/
def last (vs : List Wt) (k : Int) : Option (List UInt8) := (vs.reverse.find? fun w => decide (w.at_ = k)).map fun w => full w.data
theorem last_snoc (vs : List Wt) (w : Wt) (k : Int) : last (vs ++ [w]) k = if w.at_ = k then some (full w.data) else last vs k := by
  unfold last
  rw [List.reverse_append]
  simp only [List.reverse_cons, List.reverse_nil, List.nil_append, List.singleton_append, List.find?_cons]
  by_cases e : w.at_ = k
  · rw [if_pos e]; simp [e]
  · rw [if_neg e]; simp [e]
theorem last_none {vs : List Wt} {k : Int} (h : ∀ w ∈ vs, w.at_ ≠ k) : last vs k = none := by
  induction vs using rev_ind with
  | nil => rfl
  | snoc r w ih => rw [last_snoc, if_neg (h w (by simp)), ih fun x hx => h x (by simp [hx])]
theorem look_append (ps : List (List UInt8)) (ws vs : List Wt) (dn : Bool) (k : Int) : look ⟨ps, ws ++ vs, dn⟩ k = (last vs k).getD (look ⟨ps, ws, dn⟩ k) := by
  induction vs using rev_ind with
  | nil => rw [List.append_nil]; rfl
  | snoc r w ih =>
    rw [← List.append_assoc, look_snoc, last_snoc]
    split
    · rfl
    · exact ih
/-- The pages of a frame. -/
def frame (r : List UInt8) : List (List UInt8) := firstPage r :: restPages r
theorem pagesN_pos (n : Nat) : 1 ≤ pagesN n := by unfold pagesN; omega
theorem length_frame (r : List UInt8) : (frame r).length = pagesN r.length := by
  have := pagesN_pos r.length
  simp [frame, restPages, length_chunks]; omega
/-- The writes of some pages from a page on, the last one first. -/
def backw (k : Nat) : List (List UInt8) → List Wt
  | [] => []
  | p :: r => backw (k + 1) r ++ [⟨(k : Nat), p⟩]
theorem length_backw : ∀ (k : Nat) (l : List (List UInt8)), (backw k l).length = l.length
  | _, [] => rfl
  | k, p :: r => by simp [backw, length_backw (k + 1) r]
theorem backw_at : ∀ (l : List (List UInt8)) (k : Nat) (w : Wt), w ∈ backw k l → (k : Int) ≤ w.at_ ∧ w.at_ < k + l.length ∧ w.data ∈ l
  | [], _, _, h => by simp [backw] at h
  | p :: r, k, w, h => by
    rcases List.mem_append.1 h with h | h
    · have := backw_at r (k + 1) w h
      simp only [List.length_cons, List.mem_cons]
      exact ⟨by omega, by omega, .inr this.2.2⟩
    · obtain rfl : w = ⟨(k : Nat), p⟩ := by simpa using h
      simp only [List.length_cons, List.mem_cons]
      exact ⟨by omega, by omega, .inl trivial⟩
theorem last_backw : ∀ (l : List (List UInt8)) (k i : Nat), (∀ p ∈ l, p.length = 64) → last (backw k l) (i : Nat) = if k ≤ i ∧ i < k + l.length then l[i - k]? else none
  | [], k, i, _ => by rw [if_neg (by simp only [List.length_nil]; omega)]; rfl
  | p :: r, k, i, h => by
    show last (backw (k + 1) r ++ [⟨(k : Nat), p⟩]) (i : Nat) = _
    rw [last_snoc, last_backw r (k + 1) i fun q hq => h q (by simp [hq])]
    dsimp only
    by_cases e : k = i
    · subst e
      rw [if_pos rfl, if_pos ⟨Nat.le_refl _, by simp⟩, full_self (h p (by simp))]
      simp
    · rw [if_neg (by omega)]
      simp only [List.length_cons]
      by_cases c : k + 1 ≤ i ∧ i < k + 1 + r.length
      · rw [if_pos c, if_pos ⟨by omega, by omega⟩, show i - k = (i - (k + 1)) + 1 by omega, List.getElem?_cons_succ]
      · rw [if_neg c, if_neg (by omega)]
/-- What Append writes. -/
def appendW (z : Nat) (r : List UInt8) : List Wt := (if z + pagesN r.length < 400 then [⟨((z + pagesN r.length : Nat) : Int), full []⟩] else []) ++ backw z (frame r)
theorem frame_wide (r : List UInt8) : ∀ p ∈ frame r, p.length = 64 := by
  intro p hp
  rcases List.mem_cons.1 hp with rfl | hp
  · exact length_first r
  · have : ∀ (k : Nat) (l : List UInt8), ∀ p ∈ chunks k l, p.length = 64 := by
      intro k
      induction k with
      | zero => intro l p hp; simp [chunks] at hp
      | succ k ih =>
        intro l p hp
        rcases List.mem_cons.1 hp with rfl | hp
        · exact length_full _
        · exact ih _ _ hp
    exact this _ _ p hp
theorem appendW_at {z : Nat} {r : List UInt8} (hz : z + pagesN r.length ≤ 400) : ∀ w ∈ appendW z r, (z : Int) ≤ w.at_ ∧ w.at_ ≤ z + pagesN r.length ∧ w.at_ < 400 ∧ w.data.length = 64 := by
  intro w hw
  unfold appendW at hw
  rcases List.mem_append.1 hw with hw | hw
  · split at hw
    · obtain rfl := List.mem_singleton.1 hw
      exact ⟨by dsimp only; omega, by dsimp only; omega, by dsimp only; omega, length_full _⟩
    · simp at hw
  · have := backw_at _ _ _ hw
    rw [length_frame] at this
    exact ⟨by omega, by omega, by omega, frame_wide r _ this.2.2⟩
theorem last_appendW {z : Nat} {r : List UInt8} (i : Nat) : last (appendW z r) (i : Nat) = if z ≤ i ∧ i < z + pagesN r.length then (frame r)[i - z]? else if i = z + pagesN r.length ∧ i < 400 then some (full []) else none := by
  have key : ∀ (vs ws : List Wt) (k : Int), last (vs ++ ws) k = (last ws k).or (last vs k) := by
    intro vs ws k
    induction ws using rev_ind with
    | nil => rw [List.append_nil]; rfl
    | snoc r w ih =>
      rw [← List.append_assoc, last_snoc, last_snoc]
      split
      · rfl
      · exact ih
  unfold appendW
  rw [key, last_backw _ _ _ (frame_wide r), length_frame]
  by_cases h : z ≤ i ∧ i < z + pagesN r.length
  · rw [if_pos h, if_pos h, List.getElem?_eq_getElem (by rw [length_frame]; omega)]; rfl
  · rw [if_neg h, if_neg h, Option.none_or]
    by_cases h2 : z + pagesN r.length < 400
    · rw [if_pos h2]
      by_cases e : i = z + pagesN r.length
      · subst e
        rw [if_pos ⟨rfl, h2⟩]
        show last ([] ++ [_]) _ = _
        rw [last_snoc, if_pos rfl, full_self (length_full _)]
      · rw [if_neg (by omega)]
        show last ([] ++ [_]) _ = _
        rw [last_snoc, if_neg (by dsimp only; omega)]; rfl
    · rw [if_neg h2, if_neg (by omega)]; rfl
/-- The pages of a disk. -/
def pagesOf (d : Dk) : Pages := fun i => look d (i : Nat)
/-- The pages after Append. -/
def after (P : Pages) (z : Nat) (r : List UInt8) : Pages := fun i => if z ≤ i ∧ i < z + pagesN r.length then (frame r).getD (i - z) [] else if i = z + pagesN r.length ∧ i < 400 then full [] else P i
theorem pages_append (ps : List (List UInt8)) (ws : List Wt) (dn : Bool) (z : Nat) (r : List UInt8) : pagesOf ⟨ps, ws ++ appendW z r, dn⟩ = after (pagesOf ⟨ps, ws, dn⟩) z r := by
  funext i
  unfold pagesOf after
  rw [look_append, last_appendW]
  by_cases h : z ≤ i ∧ i < z + pagesN r.length
  · rw [if_pos h, if_pos h, List.getD_eq_getElem?_getD, List.getElem?_eq_getElem (by rw [length_frame]; omega)]; rfl
  · rw [if_neg h, if_neg h]
    split <;> rfl
theorem zeros_get (n i : Nat) : (zeros n).getD i 0 = 0 := by
  unfold zeros
  rw [List.getD_eq_getElem?_getD, List.getElem?_replicate]
  split <;> rfl
/-- The records after Append. -/
theorem chain_after {P : Pages} {k z : Nat} {l : List (List UInt8)} {r : List UInt8} (h : Chain P k l z) (hr : r.length < two32) (hz : z + pagesN r.length ≤ 400) :
    Chain (after P z r) k (l ++ [r]) (z + pagesN r.length) ∧ Stop (after P z r) (z + pagesN r.length) := by
  have hp := pagesN_pos r.length
  constructor
  · refine Chain.snoc (h.congr fun i _ hi => ?_) (by omega) (entry_frame hr ?_ (fun i hi => ?_) hz)
    · unfold after; rw [if_neg (by omega), if_neg (by omega)]
    · unfold after; rw [if_pos ⟨Nat.le_refl _, by omega⟩, Nat.sub_self]; rfl
    · unfold after
      rw [if_pos ⟨by omega, by omega⟩, show z + 1 + i - z = i + 1 by omega]; rfl
  · rcases Nat.lt_or_ge (z + pagesN r.length) 400 with hlt | hge
    · refine stop_unmarked ?_
      unfold after
      rw [if_neg (by omega), if_pos ⟨rfl, hlt⟩]
      show (zeros 64).getD 63 0 ≠ 1
      rw [zeros_get]; decide
    · exact .inl hge
/-! ### Crashes -/
/-- All writes of Append but the last. -/
def appendI (z : Nat) (r : List UInt8) : List Wt := (if z + pagesN r.length < 400 then [⟨((z + pagesN r.length : Nat) : Int), full []⟩] else []) ++ backw (z + 1) (restPages r)
theorem appendW_eq (z : Nat) (r : List UInt8) : appendW z r = appendI z r ++ [⟨(z : Nat), firstPage r⟩] := by
  unfold appendW appendI
  rw [List.append_assoc]; rfl
theorem appendI_at {z : Nat} {r : List UInt8} : ∀ w ∈ appendI z r, (z : Int) < w.at_ := by
  intro w hw
  unfold appendI at hw
  rcases List.mem_append.1 hw with hw | hw
  · split at hw
    · obtain rfl := List.mem_singleton.1 hw
      have := pagesN_pos r.length
      dsimp only; omega
    · simp at hw
  · have := backw_at _ _ _ hw
    omega
theorem length_appendI (z : Nat) (r : List UInt8) : (appendI z r).length + 1 = pagesN r.length + if z + pagesN r.length < 400 then 1 else 0 := by
  have := pagesN_pos r.length
  unfold appendI
  rw [List.length_append, length_backw]
  unfold restPages
  rw [length_chunks]
  split <;> simp <;> omega
theorem kept_append {ps : List (List UInt8)} {z : Nat} {r : List UInt8} {k : Nat} (hk : k ≤ (appendI z r).length + 1) : kept ⟨ps, appendW z r, false⟩ (k : Int) = k := by
  unfold kept
  dsimp only
  rw [appendW_eq, List.length_append, List.length_singleton]
  omega
section
variable {ps : List (List UInt8)} {z : Nat} {r : List UInt8} {k t : Nat} (hf : formed ⟨ps, appendW z r, false⟩ = true) (hk : k ≤ (appendI z r).length + 1)
include hf hk
/-- A crash before the last write is whole: the pages before the frame, and the mark of its first page, are as they were. -/
theorem crash_part (h : k < (appendI z r).length ∨ k = (appendI z r).length ∧ t < 64) :
    (∀ i, i < z → pagesOf ⟨broken ⟨ps, appendW z r, false⟩ k t, [], false⟩ i = pagesOf ⟨ps, [], false⟩ i) ∧ (pagesOf ⟨broken ⟨ps, appendW z r, false⟩ k t, [], false⟩ z).getD 63 0 = (pagesOf ⟨ps, [], false⟩ z).getD 63 0 := by
  have htk : (appendW z r).take k = (appendI z r).take k := by
    rw [appendW_eq, List.take_append_of_le_length (by omega)]
  have hat : ∀ i : Nat, i ≤ z → look ⟨ps, (appendW z r).take k, false⟩ (i : Nat) = look ⟨ps, [], false⟩ (i : Nat) := by
    intro i hi
    rw [htk]
    have := look_append ps [] ((appendI z r).take k) false (i : Nat)
    rw [List.nil_append] at this
    rw [this, last_none fun w hw => by have := appendI_at w (List.mem_of_mem_take hw); omega]
    rfl
  constructor
  · intro i hi
    unfold pagesOf
    rw [look_broken hf _ _ (by omega), kept_append hk]
    dsimp only
    rw [hat i (by omega)]
    split
    · rename_i w hw
      rw [if_neg]
      rw [appendW_eq] at hw
      have := List.mem_of_getElem? hw
      rcases List.mem_append.1 this with h' | h'
      · have := appendI_at w h'; omega
      · obtain rfl := List.mem_singleton.1 h'; dsimp only; omega
    · rfl
  · unfold pagesOf
    rw [look_broken hf _ _ (by omega), kept_append hk]
    dsimp only
    rw [hat z (Nat.le_refl _)]
    split
    · rename_i w hw
      split
      · rename_i e
        have ht : t < 64 := by
          rcases h with h | h
          · rw [appendW_eq, List.getElem?_append_left h] at hw
            have := appendI_at w (List.mem_of_getElem? hw); omega
          · exact h.2
        have hwl : w.data.length = 64 := (((formed_iff _).1 hf).2.2.1 w (List.mem_of_getElem? hw)).2.2
        have hl := length_look ⟨ps, [], false⟩ (z : Nat)
        unfold over
        rw [List.getD_eq_getElem?_getD, List.getD_eq_getElem?_getD, List.getElem?_append_right (by rw [List.length_take]; omega), List.getElem?_drop, List.length_take]
        congr 2
        omega
      · rfl
    · rfl
/-- A crash after the last write. -/
theorem crash_whole (h : k = (appendI z r).length + 1 ∨ k = (appendI z r).length ∧ t = 64) : pagesOf ⟨broken ⟨ps, appendW z r, false⟩ k t, [], false⟩ = pagesOf ⟨ps, appendW z r, false⟩ := by
  funext i
  unfold pagesOf
  rw [look_broken hf _ _ (by omega), kept_append hk]
  dsimp only
  rcases h with h | ⟨h, ht⟩
  · have hl : (appendW z r).length ≤ k := by rw [appendW_eq]; simp; omega
    rw [List.getElem?_eq_none hl, List.take_of_length_le hl]
  · subst h ht
    have hw : (appendW z r)[(appendI z r).length]? = some ⟨(z : Nat), firstPage r⟩ := by rw [appendW_eq]; simp
    have htk : (appendW z r).take (appendI z r).length = appendI z r := by rw [appendW_eq, List.take_left' rfl]
    rw [hw, htk]
    dsimp only
    rw [appendW_eq, look_snoc]
    dsimp only
    split
    · rw [full_self (length_first r)]
      exact over_all (length_first r) (length_look _ _)
    · rfl
end
end Go.Proofs.Ytcembocnkndlhaa
/- The walks of readable, entries, and of the iterator of entries. -/
namespace Go.Proofs.Ytcembocnkndlhaa
open Go.RowKit Go.Shelf
attribute [local go_sem] Oper.semAt_some
theorem readD_err (d : Dk) (k : Int) : (readD d k).2 = failure d k := by
  unfold readD
  split
  · rfl
  · rename_i h; simp at h; rw [h]
set_option maxHeartbeats 2000000 in
set_option maxRecDepth 100000 in
theorem readable_any (v : Value) (d : Dk) (k : Int) (w : World) (h : IsDisk w v d) : Calls Try.prog 66 #[v, .int .i64 k] w fun e w' => e = .returned (.int .i64 (failure d k)) ∧ Below w.heap.size w w' := by
  have h0 := h
  obtain ⟨pa, pc, wa, wc, rfl, -, -, -⟩ := h.shape
  have b0 := below_new w (.cells #[.slice pa d.pages.length pc, .slice wa d.writes.length wc, .bool d.down] 25)
  have g0 := heap_alloc_new w (.cells #[.slice pa d.pages.length pc, .slice wa d.writes.length wc, .bool d.down] 25)
  obtain ⟨wb, hwb⟩ : ∃ x : World, x = w.alloc (.cells #[.slice pa d.pages.length pc, .slice wa d.writes.length wc, .bool d.down] 25) := ⟨_, rfl⟩
  rw [← hwb] at b0 g0
  obtain ⟨y0, y1, y2, -, -, -⟩ := Box3.of g0
  obtain ⟨r, hr⟩ : ∃ r, failure d k = r := ⟨_, rfl⟩
  have HR := Lib.hid ((readD_err d k).trans hr)
  rw [hr]
  clear hr
  go_enter Try.func66, Try.ntmps66
  go_wp2_with fail
  rw [← hwb]
  clear hwb
  refine (Read_any _ d k _ (h0.keep b0)).mono ?_
  rintro e w1 ⟨u, rfl, -, b1⟩
  rw [HR.out]
  go_wp2
  go_ret
  exact ⟨rfl, below_trans b0 b1⟩
theorem entries_any (pa : Option Addr) (pn pc : Nat) (wa : Option Addr) (wn wc : Nat) (dn : Bool) (k : Int) (w : World) : Calls Try.prog 67 #[.agg #[.slice pa pn pc, .slice wa wn wc, .bool dn], .int .i64 k] w fun e w' =>
    e = .returned (.func (.func 81) #[] #[.pointer (some ⟨w.heap.size + 1, 0, none⟩), .pointer (some ⟨w.heap.size, 0, none⟩)]) ∧ w' = (w.alloc (.cells #[.slice pa pn pc, .slice wa wn wc, .bool dn] 25)).alloc (.cells #[.int .i64 k] 3) := by
  go_enter Try.func67, Try.ntmps67
  go_wp2
  go_ret
  exact ⟨rfl, rfl⟩
/-- Bytes at the head of a block of bytes. -/
def HoldsB (w : World) (g cap : Nat) (l : List UInt8) : Prop := ∃ cur : Array Value, w.heap[g]? = some (.cells cur 5 (0, 0)) ∧ l.length ≤ cap ∧ cap ≤ maxLen ∧ cur.size = cap ∧ cur.toList.take l.length = bytesV l
theorem HoldsB.own {w : World} {g cap : Nat} {l : List UInt8} (h : HoldsB w g cap l) : OwnB w 0 (.slice (some ⟨g, 0, none⟩) l.length cap) l := by
  obtain ⟨cur, h1, h2, h3, h4, h5⟩ := h
  exact ⟨⟨by rw [length_bytesV, Nat.mul_one], .inr ⟨g, cap, cur, rfl, Nat.zero_le _, h1, h2, h3, by rw [h4, Nat.mul_one], by rw [Nat.mul_one]; exact h5⟩⟩, by simp⟩
theorem HoldsB.is {w : World} {g cap : Nat} {l : List UInt8} (h : HoldsB w g cap l) : IsBytes w (.slice (some ⟨g, 0, none⟩) l.length cap) l := h.own.is (by obtain ⟨cur, h1, h2, h3, h4, h5⟩ := h; unfold maxLen at h3; omega)
theorem OwnB.holds {w : World} {base g n cap : Nat} {l : List UInt8} (h : OwnB w base (.slice (some ⟨g, 0, none⟩) n cap) l) {m : Nat} (hm : m ≤ l.length) : HoldsB w g cap (l.take m) := by
  obtain ⟨g', cap', cur, e, h1, h2, h3, h4, h5, h6⟩ := h.form
  injection e with e1 e2 e3
  injection e1 with e1
  injection e1 with e1
  subst e1 e3
  have hl : (l.take m).length = m := by rw [List.length_take]; omega
  refine ⟨cur, h2, by omega, h4, h5, ?_⟩
  have : cur.toList.take m = (cur.toList.take l.length).take m := by rw [List.take_take, Nat.min_eq_left hm]
  rw [hl, this, h6]
  unfold bytesV
  rw [List.map_take]
/-- What a round keeps: what lay there at the start, all blocks of bytes, and all boxes of disks. -/
def KpB (n₀ : Nat) (A B : World) : Prop := Below n₀ A B ∧ ∀ (k : Nat) (cs : Array Value) (t : TypeId), t = 5 ∨ t = 25 → A.heap[k]? = some (.cells cs t (0, 0)) → B.heap[k]? = some (.cells cs t (0, 0))
theorem KpB.refl (n₀ : Nat) (A : World) : KpB n₀ A A := ⟨Below.refl _ _, fun _ _ _ _ h => h⟩
theorem KpB.trans {n₀ : Nat} {A B C : World} (h : KpB n₀ A B) (k : KpB n₀ B C) : KpB n₀ A C := ⟨h.1.trans k.1, fun i cs t ht hi => k.2 i cs t ht (h.2 i cs t ht hi)⟩
theorem KpB.of_below {n₀ : Nat} {A B : World} (h : Below A.heap.size A B) (hn : n₀ ≤ A.heap.size) : KpB n₀ A B := ⟨h.mono hn, fun _ _ _ _ hi => block_keep hi h⟩
theorem HoldsB.kept {n₀ : Nat} {A B : World} {g cap : Nat} {l : List UInt8} (h : HoldsB A g cap l) (k : KpB n₀ A B) : HoldsB B g cap l := by
  obtain ⟨cur, h1, h2⟩ := h
  exact ⟨cur, k.2 _ _ 5 (.inl rfl) h1, h2⟩
theorem HoldsB.keep {A B : World} {g cap : Nat} {l : List UInt8} (h : HoldsB A g cap l) (k : Below A.heap.size A B) : HoldsB B g cap l := by
  obtain ⟨cur, h1, h2⟩ := h
  exact ⟨cur, block_keep h1 k, h2⟩
structure Ent where
  g : Nat
  cap : Nat
  rec_ : List UInt8
  fin : Nat
def encE (x : Ent) : Array Value := #[.agg #[.slice (some ⟨x.g, 0, none⟩) x.rec_.length x.cap, .int .i64 x.fin]]
def endOf (s : Nat) (xs : List Ent) : Nat := xs.foldl (fun _ x => x.fin) s
theorem endOf_snoc (s : Nat) (xs : List Ent) (x : Ent) : endOf s (xs ++ [x]) = x.fin := by simp [endOf]
def HoldE (W : World) (xs : List Ent) : Prop := ∀ x ∈ xs, HoldsB W x.g x.cap x.rec_
theorem HoldE.keep {A B : World} {xs : List Ent} (h : HoldE A xs) (k : Below A.heap.size A B) : HoldE B xs := fun x hx => (h x hx).keep k
theorem HoldE.kept {n₀ : Nat} {A B : World} {xs : List Ent} (h : HoldE A xs) (k : KpB n₀ A B) : HoldE B xs := fun x hx => (h x hx).kept k
def recs (xs : List Ent) : List (List UInt8) := xs.map Ent.rec_
/-- Behind the iterator: all records have come. -/
def SE (P : Pages) (start : Nat) (xs : List Ent) (W : World) : Prop := Chain P start (recs xs) (endOf start xs) ∧ Stop P (endOf start xs) ∧ HoldE W xs
theorem bytes_src {w : World} {b off n c : Nat} {l : List UInt8} (h : IsBytes w (.slice (some ⟨b, off, none⟩) n c) l) : ∀ j u, (bytesV l)[j]? = some u → w.cell? ((⟨b, off, none⟩ : Addr).add j) = some u := by
  intro j u hj
  unfold bytesV at hj
  rw [List.getElem?_map] at hj
  obtain ⟨x, hx, rfl⟩ := Option.map_eq_some_iff.1 hj
  obtain ⟨b', off', e, hc⟩ := h.at_ hx
  injection e with e
  injection e with e1 e2
  subst e1 e2
  have e3 : (⟨b, off, none⟩ : Addr).add j = ⟨b, off + j, none⟩ := by cases j <;> simp [Addr.add]
  rw [e3]; exact hc
theorem bytes_part {w : World} {b off n c : Nat} {l : List UInt8} (h : IsBytes w (.slice (some ⟨b, off, none⟩) n c) l) {i m : Nat} (hi : i + m ≤ l.length) : IsBytes w (.slice (some ⟨b, off + i, none⟩) m (c - i)) ((l.drop i).take m) := by
  obtain ⟨a', c', e, h1, h2, h3, h4⟩ := h
  injection e with e1 e2 e3
  subst e1 e3
  have hl : ((l.drop i).take m).length = m := by rw [List.length_take, List.length_drop]; omega
  refine ⟨_, _, by rw [hl], ?_, by omega, by omega, by omega⟩
  rcases h1 with rfl | ⟨b', off', ha, hc⟩
  · exact .inl (by simp)
  · injection ha with ha
    injection ha with e1 e2
    subst e1 e2
    refine .inr ⟨b, _, rfl, fun k x hk j u hj => ?_⟩
    have hkm : k < m := by have := (List.getElem?_eq_some_iff.1 hk).1; omega
    rw [List.getElem?_take_of_lt hkm, List.getElem?_drop] at hk
    have := hc _ x hk j u hj
    rwa [show off + (i + k) * 1 + j = off + i + k * 1 + j from by omega] at this
end Go.Proofs.Ytcembocnkndlhaa
/- The walk of the iterator of entries. -/
namespace Go.Proofs.Ytcembocnkndlhaa
open Go.RowKit Go.Shelf
attribute [local go_sem] Oper.semAt_some
theorem number_b (v : Value) (l : List UInt8) (w : World) (h : IsBytes w v l) (hl : 4 ≤ l.length) : Calls Try.prog 82 #[v] w fun e w' => e = .returned (.int .u32 (number l)) ∧ Below w.heap.size w w' :=
  (number_any v l w h hl).mono fun _ _ ⟨he, k, hk⟩ => ⟨he, by subst hk; exact below_drewN (Below.refl _ _) k⟩
theorem number_lt (l : List UInt8) : number l < 4294967296 := by
  unfold number
  have h0 := (l.getD 0 0).toNat_lt
  have h1 := (l.getD 1 0).toNat_lt
  have h2 := (l.getD 2 0).toNat_lt
  have h3 := (l.getD 3 0).toNat_lt
  omega
/-- What the iterator has gathered of a frame. -/
def gath (P : Pages) (k i : Nat) : List UInt8 := ((P k).drop 8).take 55 ++ ((List.range i).map fun j => P (k + 1 + j)).flatten
theorem gath_succ (P : Pages) (k i : Nat) : gath P k (i + 1) = gath P k i ++ P (k + 1 + i) := by
  unfold gath; rw [List.range_succ, List.map_append, List.flatten_append]; simp
theorem gath_zero (P : Pages) (k : Nat) : gath P k 0 = ((P k).drop 8).take 55 := by simp [gath]
theorem gath_len {P : Pages} (hP : ∀ k, (P k).length = 64) (k i : Nat) : (gath P k i).length = 55 + 64 * i := by
  induction i with
  | zero => rw [gath_zero, List.length_take, List.length_drop, hP]; rfl
  | succ i ih => rw [gath_succ, List.length_append, ih, hP]; omega
theorem look_wide (d : Dk) (k : Nat) : (pagesOf d k).length = 64 := by
  unfold pagesOf look
  split
  · exact length_full _
  · split
    · exact length_full _
    · exact length_full _
theorem below_grown {A B : World} (h : Below A.heap.size A B) : A.grownBy B none := ⟨h.os, h.tape, h.output, h.size, fun i hi _ => h.block i hi⟩
theorem OwnB.grew {w : World} {base n n' : Nat} {v : Value} {l m : List UInt8} (h : w.ownsRow base 5 1 v n (bytesV l ++ bytesV m)) (hn : n = n') (hl : n' = (l ++ m).length) (hp : 0 < n') : ∃ g cap, v = .slice (some ⟨g, 0, none⟩) n' cap ∧ OwnB w base (.slice (some ⟨g, 0, none⟩) n' cap) (l ++ m) := by
  subst hn
  rcases h.2 with ⟨_, h0⟩ | ⟨g, cap, cur, rfl, _⟩
  · omega
  · refine ⟨g, cap, rfl, ?_, by simp⟩
    rw [← hl, bytesV_append]
    exact h
theorem IsBytes.keep' {A B : World} {v : Value} {l : List UInt8} (h : IsBytes A v l) (hb : Below A.heap.size A B) : IsBytes B v l := h.keep hb
theorem bytes_drop {w : World} {b off n c : Nat} {l : List UInt8} (h : IsBytes w (.slice (some ⟨b, off, none⟩) n c) l) {i : Nat} (hi : i ≤ l.length) : IsBytes w (.slice (some ⟨b, off + i, none⟩) (l.length - i) (c - i)) (l.drop i) := by
  have := bytes_part h (i := i) (m := l.length - i) (by omega)
  rwa [List.take_of_length_le (by rw [List.length_drop]; exact Nat.le_refl _)] at this
section
variable {P : Pages} {k : Nat}
theorem entry_no1 (h : (P k).getD 63 0 ≠ 1) : entryAt P k = none := by unfold entryAt; rw [if_pos (.inl h)]
theorem entry_no2 (h : ¬ k + pagesN (number (P k)) ≤ 400) : entryAt P k = none := by unfold entryAt; rw [if_pos (.inr (by omega))]
theorem entry_no3 (h1 : (P k).getD 63 0 = 1) (h2 : k + pagesN (number (P k)) ≤ 400) (h : sumN ((gath P k (pagesN (number (P k)) - 1)).take (number (P k))) ≠ number ((P k).drop 4)) : entryAt P k = none := by
  unfold entryAt; rw [if_neg (by rintro (h | h); exact h h1; omega), if_pos (show sumN ((bytesAt P k (number (P k))).take (number (P k))) ≠ _ from h)]
theorem entry_yes (h1 : (P k).getD 63 0 = 1) (h2 : k + pagesN (number (P k)) ≤ 400) (h : sumN ((gath P k (pagesN (number (P k)) - 1)).take (number (P k))) = number ((P k).drop 4)) : entryAt P k = some ((gath P k (pagesN (number (P k)) - 1)).take (number (P k)), k + pagesN (number (P k))) := by
  unfold entryAt; rw [if_neg (by rintro (h | h); exact h h1; omega), if_neg (fun hn => hn h)]; rfl
end
set_option maxRecDepth 100000 in
set_option maxHeartbeats 2000000 in
theorem entries1_in (l Bs Bd n₀ start : Nat) (d : Dk) (pa wa : Option Addr) (pc wc : Nat) (J : List Ent → World → Prop) (hJ : ∀ s A B, J s A → A.grownBy B none → J s B)
    (hY : ∀ pre x A, J pre A → pre.length < 400 → YieldAt Fence.wide 2 Try.prog l (encE x) A fun e B => e = .returned (.bool true) ∧ J (pre ++ [x]) B ∧ KpB n₀ A B)
    (W : World) (hn₀ : n₀ ≤ W.heap.size) (hBs : W.cell? ⟨Bs, 0, none⟩ = some (.int .i64 start)) (hBd : ∀ A, KpB n₀ W A → Box3 A Bd (.slice pa d.pages.length pc) (.slice wa d.writes.length wc) (.bool d.down))
    (hD : ∀ A, KpB n₀ W A → IsDisk A (.agg #[.slice pa d.pages.length pc, .slice wa d.writes.length wc, .bool d.down]) d) (hfm : formed d = true) (hdn : d.down = false) (hst : start < 400) (h0 : J [] W) :
    CallsIn Fence.wide 3 Try.prog 81 #[.func (.yield l) #[] #[], .pointer (some ⟨Bs, 0, none⟩), .pointer (some ⟨Bd, 0, none⟩)] W fun e B => (∃ v, e = .returned v) ∧ ∃ xs, SE (pagesOf d) start xs B ∧ J xs B := by
  have HFM := Lib.hid hfm
  have HDN := Lib.hid hdn
  have HW := Lib.hid (look_wide d)
  clear hfm hdn
  obtain ⟨P, HP⟩ : ∃ P, Hid (pagesOf d = P) := ⟨_, Lib.hid rfl⟩
  rw [HP.out] at HW ⊢
  refine callsIn_of_wp Try.func81 rfl trivial ?_ rfl
  simp only [Try.ntmps81, List.size_toArray, List.length_cons, List.length_nil, Nat.reduceAdd, Nat.reduceSub, Array.replicate_succ, Array.replicate_zero, List.push_toArray, List.append_toArray, List.nil_append, List.cons_append]
  have hb0 := hBs
  gi_wp2
  gi_loopw [4] (fun i wr => ∃ (k : Nat) (xs : List Ent), k ≤ 400 ∧ i = .int .i64 k ∧ Hid (Chain P start (recs xs) k) ∧ Hid (endOf start xs = k) ∧ start + xs.length ≤ k ∧ HoldE wr xs ∧ J xs wr ∧ KpB n₀ W wr)
    (fun i _ => 400 - (intOf i).toNat)
  case atStart => exact ⟨start, [], by omega, rfl, Lib.hid (.nil _), Lib.hid rfl, Nat.le_refl _, by simp [HoldE], h0, KpB.refl _ _⟩
  case round =>
    clear hb0
    obtain ⟨k, xs, hk, rfl, HC, HE, hln, hH, hJs, hB⟩ := hrel
    obtain ⟨wo, rfl⟩ : ∃ wo : World, wo = wr := ⟨_, rfl⟩
    by_cases hlt : k < 400
    · have hd : decide (k < 400) = true := decide_eq_true hlt
      have hd' : decide ((k : Int) < 400) = true := decide_eq_true (by omega)
      obtain ⟨y0, y1, y2⟩ := hBd wo hB
      have hDo := hD wo hB
      have hno : n₀ ≤ wo.heap.size := Nat.le_trans hn₀ hB.1.size
      obtain ⟨pg, HPG⟩ : ∃ pg, Hid (P k = pg) := ⟨_, Lib.hid rfl⟩
      have HRD : Hid (readD d (k : Int) = (pg, 0)) := Lib.hid (by rw [readD_ok HFM.out HDN.out (by omega) (by omega)]; show (pagesOf d k, (0 : Int)) = _; rw [HP.out, HPG.out])
      have HP64 := Lib.hid (show pg.length = 64 by rw [← HPG.out]; exact HW.out k)
      have hpa : pg.length ≤ 64 := Nat.le_of_eq HP64.out
      have hpb : 64 ≤ pg.length := Nat.le_of_eq HP64.out.symm
      gi_wp2_with fail
      refine ⟨trivial, ?_⟩
      refine (callsIn_wide.2 (Read_any _ d k _ hDo)).mono ?_
      rintro e w1 hres
      obtain ⟨a, c, rfl, hp, b1⟩ := hres.to HRD
      have hp4 : 4 ≤ pg.length := by omega
      obtain ⟨b, off, rfl⟩ : ∃ b off, a = some ⟨b, off, none⟩ := by
        obtain ⟨b, off, e, -⟩ := hp.at_ (List.getElem?_eq_getElem (i := 0) (by omega)); exact ⟨b, off, e⟩
      have hc64 : 64 ≤ c := by obtain ⟨a', c', e, -, h1, h2, h3⟩ := hp; injection e with e1 e2 e3; omega
      have hcm : c ≤ 9223372036854775807 := by obtain ⟨a', c', e, -, h1, h2, h3⟩ := hp; injection e with e1 e2 e3; omega
      obtain ⟨N, HN⟩ : ∃ N, Hid (number pg = N) := ⟨_, Lib.hid rfl⟩
      have hNlt : N < 4294967296 := by rw [← HN.out]; exact number_lt _
      gi_wp2_with fail
      refine ⟨trivial, ?_⟩
      (with_reducible refine (callsIn_wide.2 (number_b _ pg _ hp hp4)).mono ?_)
      rintro e w2 ⟨rfl, b2⟩
      rw [HN.out]
      replace hp := hp.keep b2
      replace b2 := below_trans b1 b2
      clear b1
      have hNp : N < 4611686018427387904 := by omega
      have hwN : IntKind.i64.wrap (N : Int) = (N : Int) := by rw [IntKind.wrap_i64]; omega
      gi_wp2_with fail
      refine ⟨trivial, ?_⟩
      (with_reducible refine (callsIn_wide.2 (pages_any N _ hNp)).mono ?_)
      rintro e w3 ⟨rfl, rfl⟩
      obtain ⟨E, HEp⟩ : ∃ E, Hid (pagesN N = E) := ⟨_, Lib.hid rfl⟩
      rw [HEp.out]
      have hE1 : 1 ≤ E := by rw [← HEp.out]; unfold pagesN; omega
      have hE2 : E ≤ 67108865 := by rw [← HEp.out]; unfold pagesN; omega
      have hEN : N ≤ 55 + 64 * (E - 1) := by rw [← HEp.out]; unfold pagesN; omega
      have hkE : (k : Int) + (E : Int) = ((k + E : Nat) : Int) := by omega
      obtain ⟨z, hz⟩ : ∃ z, k + E = z := ⟨_, rfl⟩
      rw [hz] at hkE
      have hz1 : k + E ≤ z := by omega
      have hz2 : z ≤ k + E := by omega
      clear hz
      obtain ⟨m, hm⟩ : ∃ m, pg[63]? = some m := ⟨_, List.getElem?_eq_getElem (by omega)⟩
      have HM := Lib.hid (show (P k).getD 63 0 = m by rw [HPG.out, List.getD_eq_getElem?_getD, hm]; rfl)
      obtain ⟨b', off', e, hc63⟩ := hp.at_ hm
      cases e
      have HNP := Lib.hid (show number (P k) = N by rw [HPG.out, HN.out])
      have HZ := Lib.hid (show k + pagesN (number (P k)) = z by rw [HNP.out, HEp.out]; omega)
      clear hm
      have h63a : (63 : Int) < (pg.length : Int) := by omega
      have h63b : 63 < pg.length := by omega
      have HJ2 := Lib.hid (hJ xs wo w2 hJs (below_grown b2))
      have HH2 := Lib.hid (hH.keep b2)
      by_cases hm1 : m = 1
      case neg =>
        have q1 : ((m.toNat : Int) != 1) = true := by
          rw [bne_iff_ne]; intro e; exact hm1 (UInt8.toNat_inj.1 (by have : m.toNat = 1 := by omega
                                                                     rw [this]; rfl))
        have HS := Lib.hid (entry_no1 (P := P) (k := k) (by rw [HM.out]; exact hm1))
        gi_wp2
        refine bodyPost_ret (results_none rfl _ _ _) rfl ?_
        exact ⟨⟨_, rfl⟩, xs, ⟨by rw [HE.out]; exact HC.out, .inr (by rw [HE.out]; exact HS.out), HH2.out⟩, HJ2.out⟩
      have HM1 := Lib.hid (HM.out.trans hm1)
      have q1 : ((m.toNat : Int) != 1) = false := by rw [hm1]; rfl
      clear hm1
      by_cases hz4 : z ≤ 400
      case neg =>
        have q2 : decide ((400 : Int) < (z : Int)) = true := decide_eq_true (by omega)
        have q3 : decide (400 < z) = true := decide_eq_true (by omega)
        have HS := Lib.hid (entry_no2 (P := P) (k := k) (by rw [HZ.out]; exact hz4))
        gi_wp2
        refine bodyPost_ret (results_none rfl _ _ _) rfl ?_
        exact ⟨⟨_, rfl⟩, xs, ⟨by rw [HE.out]; exact HC.out, .inr (by rw [HE.out]; exact HS.out), HH2.out⟩, HJ2.out⟩
      have q2 : decide ((400 : Int) < (z : Int)) = false := decide_eq_false (by omega)
      have q3 : decide (400 < z) = false := decide_eq_false (by omega)
      have hc8 : (c = 8) = False := eq_false (by omega)
      have h63c : 63 ≤ c := by omega
      have HG0 := Lib.hid (show (pg.drop 8).take 55 = gath P k 0 by rw [gath_zero, HPG.out])
      have hpc := bytes_part hp (i := 8) (m := 55) (by omega)
      rw [HG0.out] at hpc
      have HGL := Lib.hid (gath_len HW.out k)
      have hg0 : (gath P k 0).length ≤ 1000000 := by rw [HGL.out]; omega
      gi_wp2_with fail
      refine ⟨trivial, ?_⟩
      (with_reducible refine (callsIn_wide.2 (Clone_any b (off + 8) 55 (c - 8) (gath P k 0) _ hpc hg0)).mono ?_)
      rintro e w4 ⟨u, rfl, hO, b4⟩
      obtain ⟨g0, cap0, cur0, rfl, -, -, -, -, -, -⟩ := hO.form
      have b24 := below_trans b2 b4
      have hs4 := b4.size
      have bI0 : Below w2.heap.size w2 w4 := b4
      have HO0 : OwnB w4 w2.heap.size (.slice (some ⟨g0, 0, none⟩) (55 + 64 * 0) cap0) (gath P k 0) := by rw [show 55 + 64 * 0 = (gath P k 0).length from (HGL.out 0).symm]; exact hO
      rw [HGL.out 0]
      clear hO hpc
      have HPB := Lib.hid (fun A (hA : Below w2.heap.size w2 A) => hp.keep hA)
      have HP4 := Lib.hid (fun A (hA : Below w2.heap.size w2 A) => bytes_drop (hp.keep hA) (i := 4) (by omega))
      obtain ⟨p0, hp0⟩ : ∃ p0, k + 1 = p0 := ⟨_, rfl⟩
      have hk1 : (k : Int) + 1 = (p0 : Int) := by omega
      have HP0 := Lib.hid hp0
      have hp1 : k + 1 ≤ p0 := by omega
      have hp2 : p0 ≤ k + 1 := by omega
      clear hp0
      gi_wp2
      clear hk1
      gi_loopw [10, 9, 11, 12] (fun p av _ _ wr => ∃ (i g cap : Nat), i ≤ E - 1 ∧ p = .int .i64 ((p0 + i : Nat) : Int) ∧ av = .slice (some ⟨g, 0, none⟩) (55 + 64 * i) cap ∧ OwnB wr w2.heap.size (.slice (some ⟨g, 0, none⟩) (55 + 64 * i) cap) (gath P k i) ∧ Below w2.heap.size w2 wr)
        (fun p _ _ _ _ => z - (intOf p).toNat)
      case atStart => exact ⟨0, g0, cap0, Nat.zero_le _, rfl, rfl, HO0, bI0⟩
      case round =>
        clear HO0 bI0 hp
        obtain ⟨i, g, cap, hi, rfl, rfl, hO, bI⟩ := hrel
        obtain ⟨wi, rfl⟩ : ∃ wi : World, wi = wr := ⟨_, rfl⟩
        have HGi := Lib.hid (HGL.out i)
        by_cases hli : i < E - 1
        · obtain ⟨q, hq⟩ : ∃ q, p0 + i = q := ⟨_, rfl⟩
          have hqz : q < z := by omega
          have hq1 : p0 + i ≤ q := by omega
          have hq2 : q ≤ p0 + i := by omega
          rw [hq]
          have HQ := Lib.hid hq
          clear hq
          have hdq : decide (q < z) = true := decide_eq_true hqz
          have bWi := hB.trans (KpB.of_below (below_trans b2 bI) hno)
          obtain ⟨y0, y1, y2⟩ := hBd wi bWi
          have hDi := hD wi bWi
          obtain ⟨pg2, HPG2⟩ : ∃ pg, Hid (P q = pg) := ⟨_, Lib.hid rfl⟩
          have HRD2 : Hid (readD d (q : Int) = (pg2, 0)) := Lib.hid (by rw [readD_ok HFM.out HDN.out (by omega) (by omega)]; show (pagesOf d q, (0 : Int)) = _; rw [HP.out, HPG2.out])
          have HP2 := Lib.hid (show pg2.length = 64 by rw [← HPG2.out]; exact HW.out q)
          have hpa2 : pg2.length ≤ 64 := Nat.le_of_eq HP2.out
          have hpb2 : 64 ≤ pg2.length := Nat.le_of_eq HP2.out.symm
          have HGS := Lib.hid (gath_succ P k i)
          rw [HP0.out, HQ.out, HPG2.out] at HGS
          gi_wp2_with fail
          refine ⟨trivial, ?_⟩
          (with_reducible refine (callsIn_wide.2 (Read_any _ d q _ hDi)).mono ?_)
          rintro e w5 hres
          obtain ⟨a2, c2, rfl, hp2, b5⟩ := hres.to HRD2
          obtain ⟨bb, oo, rfl⟩ : ∃ b off, a2 = some ⟨b, off, none⟩ := by
            obtain ⟨b, off, e, -⟩ := hp2.at_ (List.getElem?_eq_getElem (i := 0) (by omega)); exact ⟨b, off, e⟩
          obtain ⟨i0, hi0, hz0, hz1', hz2'⟩ := info_parts info5
          have hown := own_keep hO.1 b5
          rw [HGi.out] at hown
          have hsrc := bytes_src hp2
          have hs5 := Nat.le_trans bI.size b5.size
          have hlb : (bytesV pg2).length = pg2.length * 1 := by rw [length_bytesV, Nat.mul_one]
          have hsm : 55 + 64 * i + pg2.length ≤ maxLen := by unfold maxLen; omega
          have hsb : (55 + 64 * i + pg2.length) * 1 ≤ 140737488355328 := by omega
          gi_wp2_with (gi_at_builtin; refine wpListIn_append_own_at _ rfl (.tmp 56) (.tmp 57) 26 rfl w2.heap.size 5 i0 (.int .u8 0) 1 1 Try.underlying26 hi0 hz0 hz1' hz2' rfl (by decide) (.slice (some ⟨g, 0, none⟩) (55 + 64 * i) cap) (55 + 64 * i) (bytesV (gath P k i)) rfl hown ⟨bb, oo, none⟩ pg2.length c2 (bytesV pg2) rfl hlb hsrc (bytesV_one _) hsm hsb hs5 ?_; intro v1 w6 hown1 hgrow1 hnil1 hat1)
          rw [HGi.out.symm] at hown1
          obtain ⟨g', cap', hv1, hO6⟩ := OwnB.grew (n' := 55 + 64 * (i + 1)) hown1 (by rw [HGi.out, HP2.out]; omega) (by rw [List.length_append, HGi.out, HP2.out]; omega) (by omega)
          subst hv1
          have b6 := (bI.trans (b5.mono bI.size)).grown hgrow1 hs5 (own_from hown)
          go_roundw
          case rel => exact ⟨i + 1, g', cap', by omega, by rw [show ((p0 + (i + 1) : Nat) : Int) = (q : Int) + 1 by omega], rfl, by rw [HGS.out]; exact hO6, b6⟩
          case measure => simp [intOf]; omega
        · have hie : i = E - 1 := by omega
          have hdq : decide (p0 + i < z) = false := decide_eq_false (by omega)
          have hdq' : decide (((p0 + i : Nat) : Int) < (z : Int)) = false := decide_eq_false (by omega)
          obtain ⟨q, hq⟩ : ∃ q, p0 + i = q := ⟨_, rfl⟩
          rw [hq] at hdq hdq' ⊢
          clear hq
          have hcap : 55 + 64 * i ≤ cap := by obtain ⟨g', c', cur, e, _, _, h3, _⟩ := hO.form; injection e with e1 e2 e3; rw [HGi.out] at h3; omega
          have hcapm : cap ≤ 9223372036854775807 := by obtain ⟨g', c', cur, e, _, _, _, h4, _⟩ := hO.form; injection e with e1 e2 e3; unfold maxLen at h4; omega
          have hNc : N ≤ cap := by omega
          have HR := Lib.hid (show (gath P k (pagesN (number (P k)) - 1)).take (number (P k)) = (gath P k i).take N by rw [HNP.out, HEp.out, hie])
          have hHo := hO.holds (m := N) (by rw [HGi.out]; omega)
          obtain ⟨r, hr⟩ : ∃ r, (gath P k i).take N = r := ⟨_, rfl⟩
          have hrl : r.length = N := by rw [← hr, List.length_take, HGi.out]; omega
          rw [hr] at HR hHo
          clear hr
          have HRL := Lib.hid hrl
          clear hrl
          have hc4 : (c = 4) = False := eq_false (by omega)
          have h4p : 4 ≤ pg.length := by omega
          have h4I : (4 : Int) ≤ (pg.length : Int) := by omega
          have hNI : (N : Int) ≤ (cap : Int) := by omega
          gi_wp2_with fail
          have gX := heap_alloc_new wi (.cells #[.slice (some ⟨g, 0, none⟩) N cap, .int .i64 z] 86)
          have bX := below_new wi (.cells #[.slice (some ⟨g, 0, none⟩) N cap, .int .i64 z] 86)
          obtain ⟨wx, hwx⟩ : ∃ x : World, x = wi.alloc (.cells #[.slice (some ⟨g, 0, none⟩) N cap, .int .i64 z] 86) := ⟨_, rfl⟩
          rw [← hwx] at gX bX
          rw [← hwx]
          clear hwx
          have hrb : IsBytes wx (.slice (some ⟨g, 0, none⟩) N cap) r := by have := (hHo.keep bX).is; rwa [HRL.out] at this
          have b2x := below_trans bI bX
          have hrb' := hrb.keep (below_drew' (Below.refl wx.heap.size wx))
          have hp4b := HP4.out wx.drew (below_drew' b2x)
          have h4l : 4 ≤ (pg.drop 4).length := by rw [List.length_drop]; omega
          obtain ⟨S, hS⟩ : ∃ S, sumN r = S := ⟨_, rfl⟩
          obtain ⟨T, hT⟩ : ∃ T, number (pg.drop 4) = T := ⟨_, rfl⟩
          have HS := Lib.hid hS
          have HT := Lib.hid hT
          have x0 : wx.cell? ⟨wi.heap.size, 0, none⟩ = some (.slice (some ⟨g, 0, none⟩) N cap) := cell_at gX rfl
          have x1 : wx.cell? ⟨wi.heap.size, 1, none⟩ = some (.int .i64 z) := cell_at gX rfl
          clear hS hT
          by_cases hst : S = T
          · have hq : ((S : Int) != (T : Int)) = false := by simp; omega
            have hq2 : (S != T) = false := by simp [hst]
            have HYES := Lib.hid (entry_yes (P := P) (k := k) HM1.out (by rw [HZ.out]; exact hz4) (by rw [HR.out, HS.out, HPG.out, HT.out]; exact hst))
            clear hst
            refine wpIn_region_any (by kernel_rfl) ?_
            refine wpAnyIn_take rfl (i := 0) (oi := _) (v := ?_) rfl (by kernel_rfl) (by kernel_rfl) (by kernel_rfl) (fun _ _ _ h => h) ⟨Or.inl ⟨by rfl, fun w' => ?_⟩, fun w' => ?_⟩ ?_
            rotate_left
            · go_simp
              try with_reducible rfl
            · rfl
            try simp only [puts, gets]
            refine wpAnyIn_take rfl (i := 3) (oi := _) (v := ?_) rfl (by kernel_rfl) (by kernel_rfl) (by kernel_rfl) (fun _ _ _ h => h) ⟨Or.inl ⟨by rfl, fun w' => ?_⟩, fun w' => ?_⟩ ?_
            rotate_left
            · go_simp
              try with_reducible rfl
            · rfl
            try simp only [puts, gets]
            refine wpAnyIn_take rfl (i := 4) (oi := _) (v := ?_) rfl (by kernel_rfl) (by kernel_rfl) (by kernel_rfl) (fun _ _ _ h => h) ⟨Or.inl ⟨by rfl, fun w' => ?_⟩, fun w' => ?_⟩ ?_
            rotate_left
            · go_simp
              try with_reducible rfl
            · rfl
            try simp only [puts, gets]
            refine wpAnyIn_ready (rs := [1]) (by kernel_rfl) (by simp) (AllReadyIn.cons (i := 1) (by rfl) (fun K hK => ?_) AllReadyIn.nil)
            go_simp
            refine hK _ _ ?_
            clear hK K
            try simp only [puts, gets]
            refine wpAnyIn_ready (rs := [2]) (by kernel_rfl) (by simp) (AllReadyIn.cons (i := 2) (by rfl) (fun K hK => ?_) AllReadyIn.nil)
            go_simp
            refine ⟨trivial, ?_⟩
            gi_at_call 46
            refine (callsIn_wide.2 (Sum_any _ r _ hrb')).mono ?_
            rintro e w7 ⟨rfl, rfl⟩
            rw [HS.out]
            refine hK _ _ ?_
            clear hK K
            try simp only [puts, gets]
            refine wpAnyIn_ready (rs := [5]) (by kernel_rfl) (by simp) (AllReadyIn.cons (i := 5) (by rfl) (fun K hK => ?_) AllReadyIn.nil)
            go_simp
            refine ⟨trivial, ?_⟩
            gi_at_call 82
            refine (callsIn_wide.2 (number_b _ (pg.drop 4) _ hp4b h4l)).mono ?_
            rintro e w7 ⟨rfl, b7⟩
            rw [HT.out]
            have b7' := below_undrew b7
            have bo7 := below_trans b2 (below_trans b2x b7')
            have x70 := cell_keep b7' x0
            have x71 := cell_keep b7' x1
            obtain ⟨fn, tmps, assign, body, hy, hR⟩ := hY xs ⟨g, cap, r, z⟩ w7 (hJ xs wo w7 hJs (below_grown bo7)) (by omega)
            unfold encE at hy
            dsimp only at hy
            rw [HRL.out] at hy
            refine hK _ _ ?_
            clear hK K
            try simp only [puts, gets]
            refine wpAnyIn_take rfl (i := 6) (oi := _) (v := ?_) rfl (by kernel_rfl) (by kernel_rfl) (by kernel_rfl) (fun _ _ _ h => h) ⟨Or.inl ⟨by rfl, fun w' => ?_⟩, fun w' => ?_⟩ ?_
            rotate_left
            · go_simp
              try with_reducible rfl
            · rfl
            try simp only [puts, gets]
            refine wpAnyIn_take rfl (i := 7) (oi := _) (v := ?_) rfl (by kernel_rfl) (by kernel_rfl) (by kernel_rfl) (fun _ _ _ h => h) ⟨Or.inl ⟨by rfl, fun w' => ?_⟩, fun w' => ?_⟩ ?_
            rotate_left
            · go_simp
              try with_reducible rfl
            · rfl
            try simp only [puts, gets]
            refine wpAnyIn_take rfl (i := 8) (oi := _) (v := ?_) rfl (by kernel_rfl) (by kernel_rfl) (by kernel_rfl) (fun _ _ _ h => h) ⟨Or.inl ⟨by rfl, fun w' => ?_⟩, fun w' => ?_⟩ ?_
            rotate_left
            · go_simp
              try with_reducible rfl
            · rfl
            try simp only [puts, gets]
            refine wpAnyIn_ready (rs := [9]) (by kernel_rfl) (by simp) (AllReadyIn.cons (i := 9) (by rfl) (fun K hK => ?_) AllReadyIn.nil)
            go_simp
            refine hK _ _ ?_
            clear hK K
            try simp only [puts, gets]
            refine wpAnyIn_ready (rs := [10]) (by kernel_rfl) (by simp) (AllReadyIn.cons (i := 10) (by rfl) (fun K hK => ?_) AllReadyIn.nil)
            go_simp
            refine hR.mono ?_
            rintro e w8 ⟨rfl, hJ8, hk8⟩
            refine hK _ _ ?_
            clear hK K
            try simp only [puts, gets]
            refine wpAnyIn_take rfl (i := 11) (oi := _) (v := ?_) rfl (by kernel_rfl) (by kernel_rfl) (by kernel_rfl) (fun _ _ _ h => h) ⟨Or.inl ⟨by rfl, fun w' => ?_⟩, fun w' => ?_⟩ ?_
            rotate_left
            · go_simp
              try with_reducible rfl
            · rfl
            try simp only [puts, gets]
            refine wpAnyIn_take rfl (i := 12) (oi := _) (v := ?_) rfl (by kernel_rfl) (by kernel_rfl) (by kernel_rfl) (fun _ _ _ h => h) ⟨Or.inl ⟨by rfl, fun w' => ?_⟩, fun w' => ?_⟩ ?_
            rotate_left
            · go_simp
              try with_reducible rfl
            · rfl
            try simp only [puts, gets]
            refine wpAnyIn_done (by kernel_rfl) ?_ _
            gi_wp2
            go_roundw
            case rel =>
              refine ⟨z, xs ++ [⟨g, cap, r, z⟩], hz4, rfl, Lib.hid ?_, Lib.hid (endOf_snoc _ _ _), by rw [List.length_append]; simp; omega, ?_, hJ8, (hB.trans (KpB.of_below bo7 hno)).trans hk8⟩
              · unfold recs
                rw [List.map_append]
                refine Chain.snoc HC.out hlt ?_
                rw [HYES.out, HR.out, HZ.out]
              · intro y hy
                rcases List.mem_append.1 hy with hy | hy
                · exact ((hH.keep bo7).kept hk8) y hy
                · obtain rfl := List.mem_singleton.1 hy
                  exact ((hHo.keep (below_trans bX b7'))).kept hk8
            case measure => simp [intOf]; omega
          · have hq : ((S : Int) != (T : Int)) = true := by simp; omega
            have hq2 : (S != T) = true := by simp [hst]
            have HNO := Lib.hid (entry_no3 (P := P) (k := k) HM1.out (by rw [HZ.out]; exact hz4) (by rw [HR.out, HS.out, HPG.out, HT.out]; exact hst))
            refine wpIn_region_any (by kernel_rfl) ?_
            refine wpAnyIn_take rfl (i := 0) (oi := _) (v := ?_) rfl (by kernel_rfl) (by kernel_rfl) (by kernel_rfl) (fun _ _ _ h => h) ⟨Or.inl ⟨by rfl, fun w' => ?_⟩, fun w' => ?_⟩ ?_
            rotate_left
            · go_simp
              try with_reducible rfl
            · rfl
            try simp only [puts, gets]
            refine wpAnyIn_take rfl (i := 3) (oi := _) (v := ?_) rfl (by kernel_rfl) (by kernel_rfl) (by kernel_rfl) (fun _ _ _ h => h) ⟨Or.inl ⟨by rfl, fun w' => ?_⟩, fun w' => ?_⟩ ?_
            rotate_left
            · go_simp
              try with_reducible rfl
            · rfl
            try simp only [puts, gets]
            refine wpAnyIn_take rfl (i := 4) (oi := _) (v := ?_) rfl (by kernel_rfl) (by kernel_rfl) (by kernel_rfl) (fun _ _ _ h => h) ⟨Or.inl ⟨by rfl, fun w' => ?_⟩, fun w' => ?_⟩ ?_
            rotate_left
            · go_simp
              try with_reducible rfl
            · rfl
            try simp only [puts, gets]
            refine wpAnyIn_ready (rs := [1]) (by kernel_rfl) (by simp) (AllReadyIn.cons (i := 1) (by rfl) (fun K hK => ?_) AllReadyIn.nil)
            go_simp
            refine hK _ _ ?_
            clear hK K
            try simp only [puts, gets]
            refine wpAnyIn_ready (rs := [2]) (by kernel_rfl) (by simp) (AllReadyIn.cons (i := 2) (by rfl) (fun K hK => ?_) AllReadyIn.nil)
            go_simp
            refine ⟨trivial, ?_⟩
            gi_at_call 46
            refine (callsIn_wide.2 (Sum_any _ r _ hrb')).mono ?_
            rintro e w7 ⟨rfl, rfl⟩
            rw [HS.out]
            refine hK _ _ ?_
            clear hK K
            try simp only [puts, gets]
            refine wpAnyIn_ready (rs := [5]) (by kernel_rfl) (by simp) (AllReadyIn.cons (i := 5) (by rfl) (fun K hK => ?_) AllReadyIn.nil)
            go_simp
            refine ⟨trivial, ?_⟩
            gi_at_call 82
            refine (callsIn_wide.2 (number_b _ (pg.drop 4) _ hp4b h4l)).mono ?_
            rintro e w7 ⟨rfl, b7⟩
            rw [HT.out]
            refine hK _ _ ?_
            clear hK K
            try simp only [puts, gets]
            refine wpAnyIn_take rfl (i := 6) (oi := _) (v := ?_) rfl (by kernel_rfl) (by kernel_rfl) (by kernel_rfl) (fun _ _ _ h => h) ⟨Or.inl ⟨by rfl, fun w' => ?_⟩, fun w' => ?_⟩ ?_
            rotate_left
            · go_simp
              try with_reducible rfl
            · rfl
            try simp only [puts, gets]
            refine wpAnyIn_take rfl (i := 7) (oi := _) (v := ?_) rfl (by kernel_rfl) (by kernel_rfl) (by kernel_rfl) (fun _ _ _ h => h) ⟨Or.inl ⟨by rfl, fun w' => ?_⟩, fun w' => ?_⟩ ?_
            rotate_left
            · go_simp
              try with_reducible rfl
            · rfl
            try simp only [puts, gets]
            refine wpAnyIn_take rfl (i := 8) (oi := _) (v := undef) rfl (by kernel_rfl) (by kernel_rfl) (by kernel_rfl) (fun _ _ _ h => h) ⟨Or.inr ⟨by rfl, rfl⟩, fun w' => ?_⟩ ?_
            · rfl
            try simp only [puts, gets]
            refine wpAnyIn_take rfl (i := 9) (oi := _) (v := undef) rfl (by kernel_rfl) (by kernel_rfl) (by kernel_rfl) (fun _ _ _ h => h) ⟨Or.inr ⟨by rfl, rfl⟩, fun w' => ?_⟩ ?_
            · rfl
            try simp only [puts, gets]
            refine wpAnyIn_take rfl (i := 10) (oi := _) (v := undef) rfl (by kernel_rfl) (by kernel_rfl) (by kernel_rfl) (fun _ _ _ h => h) ⟨Or.inr ⟨by rfl, rfl⟩, fun w' => ?_⟩ ?_
            · rfl
            try simp only [puts, gets]
            refine wpAnyIn_take rfl (i := 11) (oi := _) (v := undef) rfl (by kernel_rfl) (by kernel_rfl) (by kernel_rfl) (fun _ _ _ h => h) ⟨Or.inr ⟨by rfl, rfl⟩, fun w' => ?_⟩ ?_
            · rfl
            try simp only [puts, gets]
            refine wpAnyIn_take rfl (i := 12) (oi := _) (v := ?_) rfl (by kernel_rfl) (by kernel_rfl) (by kernel_rfl) (fun _ _ _ h => h) ⟨Or.inl ⟨by rfl, fun w' => ?_⟩, fun w' => ?_⟩ ?_
            rotate_left
            · go_simp
              try with_reducible rfl
            · rfl
            try simp only [puts, gets]
            refine wpAnyIn_done (by kernel_rfl) ?_ _
            gi_wp2
            refine bodyPost_ret (results_none rfl _ _ _) rfl ?_
            have bo7 := below_trans b2 (below_trans b2x (below_undrew b7))
            exact ⟨⟨_, rfl⟩, xs, ⟨by rw [HE.out]; exact HC.out, .inr (by rw [HE.out]; exact HNO.out), hH.keep bo7⟩, hJ xs wo w7 hJs (below_grown bo7)⟩
    · have e : k = 400 := by omega
      subst e
      gi_wp2
      go_end0
      exact ⟨⟨_, rfl⟩, xs, ⟨by rw [HE.out]; exact HC.out, .inl (by rw [HE.out]; exact Nat.le_refl _), hH⟩, hJs⟩
end Go.Proofs.Ytcembocnkndlhaa
/- The walks of Records and End. -/
namespace Go.Proofs.Ytcembocnkndlhaa
open Go.RowKit Go.Shelf
attribute [local go_sem] Oper.semAt_some
/-- The records from a page on, and the page where they end. -/
def walkL (P : Pages) : Nat → Nat → List (List UInt8) × Nat
  | 0, k => ([], k)
  | f + 1, k => if k < 400 then match entryAt P k with
    | none => ([], k)
    | some (r, e) => (r :: (walkL P f e).1, (walkL P f e).2)
    else ([], k)
theorem walkL_chain (P : Pages) : ∀ (f k : Nat), 400 - k ≤ f → Chain P k (walkL P f k).1 (walkL P f k).2 ∧ Stop P (walkL P f k).2
  | 0, k, h => ⟨.nil k, .inl (by show 400 ≤ k; omega)⟩
  | f + 1, k, h => by
    by_cases hk : k < 400
    · cases he : entryAt P k with
      | none =>
        have e : walkL P (f + 1) k = ([], k) := by unfold walkL; rw [if_pos hk, he]
        rw [e]; exact ⟨.nil k, .inr he⟩
      | some x =>
        obtain ⟨r, e⟩ := x
        have h1 := entryAt_lt he
        have e2 : walkL P (f + 1) k = (r :: (walkL P f e).1, (walkL P f e).2) := by rw [walkL, if_pos hk, he]
        rw [e2]
        obtain ⟨c1, c2⟩ := walkL_chain P f e (by omega)
        exact ⟨.cons hk he c1, c2⟩
    · have e : walkL P (f + 1) k = ([], k) := by unfold walkL; rw [if_neg hk]
      rw [e]; exact ⟨.nil k, .inl (by show 400 ≤ k; omega)⟩
def recordsD (d : Dk) (k : Int) : List (List UInt8) := if failure d k ≠ 0 then [] else (walkL (pagesOf d) 400 k.toNat).1
def endD (d : Dk) (k : Int) : Int := if failure d k ≠ 0 then -1 else ((walkL (pagesOf d) 400 k.toNat).2 : Nat)
theorem walk_is {P : Pages} {k z : Nat} {l : List (List UInt8)} (h : Chain P k l z) (hz : Stop P z) : walkL P 400 k = (l, z) := by
  obtain ⟨c1, c2⟩ := walkL_chain P 400 k (by omega)
  obtain ⟨e1, e2⟩ := Chain.unique h hz c1 c2
  rw [e1, e2]
theorem entries_told (d : Dk) (Bs Bd n₀ start : Nat) (pa wa : Option Addr) (pc wc : Nat) (w : World) (hn : n₀ ≤ w.heap.size) (hBs : w.cell? ⟨Bs, 0, none⟩ = some (.int .i64 start)) (hBd : ∀ A, KpB n₀ w A → Box3 A Bd (.slice pa d.pages.length pc) (.slice wa d.writes.length wc) (.bool d.down))
    (hD : ∀ A, KpB n₀ w A → IsDisk A (.agg #[.slice pa d.pages.length pc, .slice wa d.writes.length wc, .bool d.down]) d) (hfm : formed d = true) (hdn : d.down = false) (hst : start < 400) :
    SeqTold Fence.wide 3 Try.prog 81 #[.pointer (some ⟨Bs, 0, none⟩), .pointer (some ⟨Bd, 0, none⟩)] encE (KpB n₀) (SE (pagesOf d) start) 400 w := fun l J W hW hJ hY h0 =>
  entries1_in l Bs Bd n₀ start d pa wa pc wc J hJ hY W (Nat.le_trans hn hW.size) (cell_keep hW hBs) (fun A hA => hBd A ((KpB.of_below hW hn).trans hA)) (fun A hA => hD A ((KpB.of_below hW hn).trans hA)) hfm hdn hst h0
theorem holds_grown {A B : World} {row : Option Nat} {g cap : Nat} {l : List UInt8} (h : HoldsB A g cap l) (hg : A.grownBy B row) (hr : ∀ r, row = some r → ∃ o : Obj, A.heap[r]? = some o ∧ o.isCells = false) : HoldsB B g cap l := by
  obtain ⟨cur, h1, h2⟩ := h
  refine ⟨cur, (hg.block g (block_lt h1) fun e => ?_).trans h1, h2⟩
  obtain ⟨o, ho, hc⟩ := hr g e.symm
  rw [h1] at ho; cases ho; cases hc
theorem SE_own (P : Pages) (start B : Nat) : OwnFrom B (SE P start) := fun _ _ _ _ hs hg hr => ⟨hs.1, hs.2.1, fun x hx => holds_grown (hs.2.2 x hx) hg fun r e => (hr r e).2⟩
theorem cells_grown {A B : World} {row : Option Nat} {k : Nat} {cs : Array Value} {t : TypeId} (h : A.heap[k]? = some (.cells cs t (0, 0))) (hg : A.grownBy B row) (hr : ∀ r, row = some r → ∃ o : Obj, A.heap[r]? = some o ∧ o.isCells = false) : B.heap[k]? = some (.cells cs t (0, 0)) := by
  refine (hg.block k (block_lt h) fun e => ?_).trans h
  obtain ⟨o, ho, hc⟩ := hr k e.symm
  rw [h] at ho; cases ho; cases hc
theorem own_grown {A B : World} {row : Option Nat} {base : Nat} {e : TypeId} {size n : Nat} {v : Value} {xs : List Value} (h : A.ownsRow base e size v n xs) (hg : A.grownBy B row) (hr : ∀ r, row = some r → ∃ o : Obj, A.heap[r]? = some o ∧ o.isCells = false) : B.ownsRow base e size v n xs := by
  refine h.kept hg ?_
  cases hb : v.ownBlock with
  | none => exact .inl rfl
  | some k =>
    refine .inr fun e' => ?_
    obtain ⟨o, ho, hc⟩ := hr k e'.symm
    rcases h.2 with ⟨rfl, _⟩ | ⟨g, cap, cur, rfl, _, h3, _⟩
    · cases hb
    · obtain rfl : g = k := by simpa [Value.ownBlock] using hb
      rw [h3] at ho; cases ho; cases hc
def valE (x : Ent) : Value := .slice (some ⟨x.g, 0, none⟩) x.rec_.length x.cap
/-- A round that writes its own row and its own box keeps the rest. -/
theorem round_kept {W W' : World} {b5 n₀ B : Nat} {t5 : TypeId} {v5 : Value} {own : Option Nat} (hs : W.heap.size ≤ W'.heap.size) (ho : W'.os = W.os) (ht : W'.tape = W.tape) (hp : W'.output = W.output) (h5 : W.heap[b5]? = some (.cells #[v5] t5 (0, 0))) (ht5 : t5 ≠ 5 ∧ t5 ≠ 25) (hn : n₀ ≤ b5)
    (hown : ∀ k, own = some k → n₀ ≤ k ∧ ∃ cs, W.heap[k]? = some (.cells cs 26 (0, 0))) (hk : ∀ k, k < W.heap.size → k ≠ b5 → own ≠ some k → W'.heap[k]? = W.heap[k]?) : KeepsFrom B W W' ∧ KpB n₀ W W' := by
  refine ⟨⟨hs, fun k o _ hko hc => ?_⟩, ⟨ho, ht, hp, hs, fun k hkn => ?_⟩, fun k cs t htt hkc => ?_⟩
  · refine (hk k (Array.getElem?_eq_some_iff.1 hko).1 (fun e => ?_) fun e => ?_).trans hko
    · subst e; rw [h5] at hko; cases hko; cases hc
    · obtain ⟨_, cs, hcs⟩ := hown k e; rw [hcs] at hko; cases hko; cases hc
  · by_cases hks : k < W.heap.size
    · exact hk k hks (by omega) fun e => by have := (hown k e).1; omega
    · have := block_lt h5; omega
  · refine (hk k (block_lt hkc) (fun e => ?_) fun e => ?_).trans hkc
    · subst e; rw [h5] at hkc; injection hkc with e; injection e with _ e2 _; rcases htt with rfl | rfl
      · exact ht5.1 e2
      · exact ht5.2 e2
    · obtain ⟨_, cs', hcs⟩ := hown k e
      rw [hcs] at hkc; injection hkc with e; injection e with _ e2 _; subst e2; rcases htt with h | h <;> cases h
end Go.Proofs.Ytcembocnkndlhaa
