/- The walk of renamed. -/
import Derived.Test.YtnibgmmoebmnlaaAppB
import Derived.Test.YtnibgmmoebmnlaaPlainD
namespace Go.Proofs.Ytnibgmmoebmnlaa
open Go.RowKit
theorem info69' : (Try.prog.info? 69).map (fun i => (i.zero, i.size, i.bytes)) = some (some (.agg #[.string ⟨#[]⟩, .int .i64 0, .int .i64 0, .string ⟨#[]⟩]), 4, 48) := by kernel_rfl
def OwnTerms (w : World) (base : Nat) (v : Value) (l : List Tm) : Prop := w.ownsRow base 69 4 v l.length (l.flatMap encT)
theorem OwnTerms.is {w : World} {base : Nat} {v : Value} {l : List Tm} (h : OwnTerms w base v l) (hm : l.length ≤ 9223372036854775807) : IsTerms w v l := IsRows.of_owns h (fun _ _ => rfl) hm
theorem OwnTerms.weaken {w : World} {base B : Nat} {v : Value} {l : List Tm} (h : OwnTerms w base v l) (hB : B ≤ base) : OwnTerms w B v l := by
  refine ⟨h.1, ?_⟩
  rcases h.2 with h2 | ⟨g, cap, cur, h1, hb, h2⟩
  · exact .inl h2
  · exact .inr ⟨g, cap, cur, h1, by omega, h2⟩
theorem OwnTerms.len {w : World} {base : Nat} {v : Value} {l : List Tm} (h : OwnTerms w base v l) : ∃ a c, v = .slice a l.length c := by
  rcases h.2 with ⟨rfl, h0⟩ | ⟨g, cap, cur, hv, _⟩
  · exact ⟨none, 0, by rw [h0]⟩
  · exact ⟨_, _, hv⟩
theorem sufx_blank {s x : Nm} (h : x = noName) : sufx s x = noName := by simp [sufx, h]
theorem run_join {s x : Nm} (h : fitS s x) (hx : x ≠ noName) (W : World) : (Op.stringOp .add x.1 s.1).run Try.prog W = .ok (.string (sufx s x).1) W := by
  rw [sufx_full h hx, run_string_add_sum]
  unfold fitS maxLen at h
  omega
set_option maxHeartbeats 2000000 in
theorem renamed_any (v : Value) (ts : List Tm) (s : Nm) (w : World) (h : IsTerms w v ts) (hf : ∀ t ∈ ts, fitS s t.var) (h6 : ts.length ≤ 6) :
    Calls Try.prog 28 #[v, .string s.1] w fun e w' => ∃ v', e = .returned v' ∧ OwnTerms w' w.heap.size v' (ts.map (renT (sufx s))) ∧ Below w.heap.size w w' := by
  obtain ⟨i0, hi, hz0, hz1, hz2⟩ := info_parts info69'
  obtain ⟨a, c, rfl, h, hm⟩ := h
  go_enter Try.func28, Try.ntmps28
  go_wp2
  go_loopw [5, 6] (fun v5 iv wr => ∃ k : Nat, k ≤ ts.length ∧ iv = .int .i64 k ∧ (∃ L : List Tm, Hid (L = (ts.take k).map (renT (sufx s))) ∧ L.length = k ∧ OwnTerms wr w.heap.size v5 L) ∧ Below w.heap.size w wr) (fun _ iv _ => ts.length - (intOf iv).toNat)
  case atStart => exact ⟨0, by simp, rfl, ⟨[], Lib.hid (by simp), rfl, World.ownsRow_nil _ _ _ _⟩, Below.refl _ _⟩
  case round =>
    obtain ⟨k, hk, rfl, ⟨L, HL, hLl, hown⟩, hb⟩ := hrel
    subst hLl
    by_cases hlt : L.length < ts.length
    · obtain ⟨bt, ot, rfl, c0, c1, c2, c3⟩ := terms_at (h.keep (keeps_below hb)) (List.getElem?_eq_getElem hlt)
      have HT := Lib.hid (List.take_succ_eq_append_getElem hlt)
      have hft := hf _ (List.getElem_mem hlt)
      generalize ts[L.length] = t at *
      obtain ⟨tv, tt, tn, tstr⟩ := t
      dsimp only at *
      have hn1 : L.length + 1 ≤ maxLen := by unfold maxLen; omega
      have hn2 : (L.length + 1) * 48 ≤ 140737488355328 := by omega
      have hbs := hb.size
      have hvo := own_from hown
      have ho1 := World.ownsRow.alloc hown (.cells #[.string tv.1, .int .i64 tt, .int .i64 tn, .string tstr.1] 69)
      by_cases hbl : tv = noName
      · have hnb := nm_blank hbl
        have HS := Lib.hid (show L ++ [⟨tv, tt, tn, tstr⟩] = (ts.take (L.length + 1)).map (renT (sufx s)) by
          rw [HT.out, List.map_append, ← HL.out, List.map_singleton]
          simp [renT, hbl, sufx])
        clear hbl
        have ho2 := World.ownsRow.alloc ho1 (.cells #[.string tv.1, .int .i64 tt, .int .i64 tn, .string tstr.1] 69)
        go_wp2_with (at_builtin; refine wpList_append_lies _ rfl _ _ 22 rfl w.heap.size 69 i0 (.agg #[.string ⟨#[]⟩, .int .i64 0, .int .i64 0, .string ⟨#[]⟩]) 4 48 Try.underlying22 hi hz0 hz1 hz2 rfl (by decide) _ _ _ rfl ho2 ⟨wr.heap.size + 1, 0, none⟩ 1 1 [.string tv.1, .int .i64 tt, .int .i64 tn, .string tstr.1] rfl rfl (World.news_of_block (B := wr.heap.size + 1) (t := 69) (fr := (0, 0)) (by simpa using heap_alloc_new (wr.alloc (.cells #[.string tv.1, .int .i64 tt, .int .i64 tn, .string tstr.1] 69)) (.cells #[.string tv.1, .int .i64 tt, .int .i64 tn, .string tstr.1] 69))) (by simp [Value.oneCell']) (by decide) hn1 hn2 (by simp; omega) _ rfl ?_; intro gg cap w5 hown' hgrow hg1 hg2)
        go_roundw
        case rel =>
          refine ⟨L.length + 1, by omega, by go_num, ⟨_, HS, by simp, ?_⟩, ?_⟩
          · unfold OwnTerms
            simpa [List.flatMap_append, encT] using hown'
          · exact ((hb.alloc hbs _).alloc (by simp; omega) _).grown hgrow (by simp; omega) (fun i hi => hvo i hi)
        case measure => simp [intOf]; omega
      · obtain ⟨hnf, hnf'⟩ := nm_full hbl
        have hj := run_join hft hbl
        have HS := Lib.hid (show L ++ [⟨sufx s tv, tt, tn, tstr⟩] = (ts.take (L.length + 1)).map (renT (sufx s)) by
          rw [HT.out, List.map_append, ← HL.out, List.map_singleton]; rfl)
        generalize sufx s tv = u at *
        clear hbl
        have ho2 := World.ownsRow.alloc (World.ownsRow.alloc hown (.cells #[.string u.1, .int .i64 tt, .int .i64 tn, .string tstr.1] 69)) (.cells #[.string u.1, .int .i64 tt, .int .i64 tn, .string tstr.1] 69)
        go_wp2_with (at_builtin; refine wpList_append_lies _ rfl _ _ 22 rfl w.heap.size 69 i0 (.agg #[.string ⟨#[]⟩, .int .i64 0, .int .i64 0, .string ⟨#[]⟩]) 4 48 Try.underlying22 hi hz0 hz1 hz2 rfl (by decide) _ _ _ rfl ho2 ⟨wr.heap.size + 1, 0, none⟩ 1 1 [.string u.1, .int .i64 tt, .int .i64 tn, .string tstr.1] rfl rfl (World.news_of_block (B := wr.heap.size + 1) (t := 69) (fr := (0, 0)) (by simpa using heap_alloc_new (wr.alloc (.cells #[.string u.1, .int .i64 tt, .int .i64 tn, .string tstr.1] 69)) (.cells #[.string u.1, .int .i64 tt, .int .i64 tn, .string tstr.1] 69))) (by simp [Value.oneCell']) (by decide) hn1 hn2 (by simp; omega) _ rfl ?_; intro gg cap w5 hown' hgrow hg1 hg2)
        go_roundw
        case rel =>
          refine ⟨L.length + 1, by omega, by go_num, ⟨_, HS, by simp, ?_⟩, ?_⟩
          · unfold OwnTerms
            simpa [List.flatMap_append, encT] using hown'
          · exact ((hb.alloc hbs _).alloc (by simp; omega) _).grown hgrow (by simp; omega) (fun i hi => hvo i hi)
        case measure => simp [intOf]; omega
    · have he : L.length = ts.length := by omega
      go_wp2
      go_ret
      refine ⟨_, rfl, ?_, hb⟩
      have hL := HL.out
      rw [he, List.take_length] at hL
      rw [← hL]
      exact hown
end Go.Proofs.Ytnibgmmoebmnlaa
