/- The walks of the reference's lists of names. -/
import Derived.Test.YtnibgmmoebmnlaaWc
namespace Go.Proofs.Ytnibgmmoebmnlaa
open Go.RowKit
theorem info3' : (Try.prog.info? 3).map (fun i => (i.zero, i.size, i.bytes)) = some (some (.int .i64 0), 1, 8) := by kernel_rfl
theorem info4' : (Try.prog.info? 4).map (fun i => (i.zero, i.size, i.bytes)) = some (some (.bool false), 1, 1) := by kernel_rfl
theorem info9' : (Try.prog.info? 9).map (fun i => (i.zero, i.size, i.bytes)) = some (some (.string ⟨#[]⟩), 1, 16) := by kernel_rfl
/-- The value v is a slice of names that the call made and may append to. -/
def OwnNames (w : World) (base : Nat) (v : Value) (l : List Nm) : Prop := w.ownsRow base 9 1 v l.length (l.flatMap encS)
theorem OwnNames.is {w : World} {base : Nat} {v : Value} {l : List Nm} (h : OwnNames w base v l) (hm : l.length ≤ 9223372036854775807) : IsNames w v l :=
  IsRows.of_owns h (fun _ _ => rfl) hm
theorem OwnNames.keep {w w' : World} {base : Nat} {v : Value} {l : List Nm} (h : OwnNames w base v l) (hb : Below w.heap.size w w') : OwnNames w' base v l :=
  World.ownsRow.kept h (row := none) ⟨hb.os, hb.tape, hb.output, hb.size, fun i hi _ => hb.block i hi⟩ (by cases v.ownBlock <;> simp)
/-- The row's block is as it was, or a new one. -/
def Moved (w : World) (v v' : Value) : Prop := v'.ownBlock = v.ownBlock ∨ ∀ k, v'.ownBlock = some k → w.heap.size ≤ k
theorem grown_none {w w' : World} (hb : Below w.heap.size w w') (row : Option Nat) : w.grownBy w' row := ⟨hb.os, hb.tape, hb.output, hb.size, fun i hi _ => hb.block i hi⟩
def addN (l : List Nm) (x : Nm) : List Nm := if x = noName ∨ x ∈ l then l else l ++ [x]
theorem addN_le (l : List Nm) (x : Nm) : (addN l x).length ≤ l.length + 1 := by
  unfold addN; split <;> simp
theorem cell_str (w : World) (x : ByteArray) : ∀ j u, ([.string x] : List Value)[j]? = some u → (w.alloc (.cells #[.string x] 9)).cell? ((⟨w.heap.size, 0, none⟩ : Addr).add j) = some u :=
  World.news_of_block (heap_alloc_new w _)
set_option maxHeartbeats 1000000 in
theorem radd_any (base : Nat) (v : Value) (l : List Nm) (x : Nm) (w : World) (h : OwnNames w base v l) (hl : l.length ≤ 1000000) (hbase : base ≤ w.heap.size) :
    Calls Try.prog 38 #[v, .string x.1] w fun e w' => ∃ v', e = .returned v' ∧ OwnNames w' base v' (addN l x) ∧ w.grownBy w' v.ownBlock ∧ Moved w v v' := by
  obtain ⟨i0, hi, hz0, hz1, hz2⟩ := info_parts info9'
  have hs := h.is (by omega)
  by_cases he : x = noName
  · have HA := Lib.hid (show addN l x = l by simp [addN, he])
    have hn := nm_blank he
    clear he
    go_enter Try.func38, Try.ntmps38
    go_wp2_with fail
    refine (In_any v l x w hs).mono ?_
    rintro e w1 ⟨rfl, b1⟩
    go_wp2
    go_ret
    exact ⟨v, rfl, by rw [HA.out]; exact h.keep b1, grown_none b1 _, .inl rfl⟩
  · obtain ⟨hn, hn'⟩ := nm_full he
    by_cases hin : x ∈ l
    · have HA := Lib.hid (show addN l x = l by simp [addN, hin])
      have hd : decide (x ∈ l) = true := decide_eq_true hin
      clear he hin
      go_enter Try.func38, Try.ntmps38
      go_wp2_with fail
      refine (In_any v l x w hs).mono ?_
      rintro e w1 ⟨rfl, b1⟩
      go_wp2
      go_ret
      exact ⟨v, rfl, by rw [HA.out]; exact h.keep b1, grown_none b1 _, .inl rfl⟩
    · have HA := Lib.hid (show addN l x = l ++ [x] by simp [addN, he, hin])
      have hd : decide (x ∈ l) = false := decide_eq_false hin
      clear he hin
      go_enter Try.func38, Try.ntmps38
      go_wp2_with fail
      refine (In_any v l x w hs).mono ?_
      rintro e w1 ⟨rfl, b1⟩
      have h1 := h.keep b1
      unfold OwnNames at h1
      have hsz := b1.size
      go_wp2_with (at_builtin; refine wpList_append_lies _ rfl _ _ 28 rfl base 9 i0 (.string ⟨#[]⟩) 1 16 Try.underlying28 hi hz0 hz1 hz2 rfl (by decide) _ _ _ rfl (h1.alloc _) ⟨w1.heap.size, 0, none⟩ 1 1 [.string x.1] rfl rfl (cell_str _ _) (by simp [Value.oneCell']) (by decide) (by unfold maxLen; omega) (by omega) (by simp; omega) _ rfl ?_; intro g cap w2 hown' hgrow hg1 hg2)
      go_ret
      refine ⟨_, rfl, ?_, ?_, ?_⟩
      · rw [HA.out]; unfold OwnNames; simpa [List.flatMap_append, encS] using hown'
      · exact ((grown_none b1 _).trans (World.grownBy_alloc w1 _ _)).trans hgrow
      · rcases hg1 with hg1 | hg1
        · exact .inl hg1.symm
        · refine .inr fun k hk => ?_
          have : g = k := by simpa [Value.ownBlock] using hk
          simp at hg1
          omega
end Go.Proofs.Ytnibgmmoebmnlaa
