/- Logs in plain Lean: what Append and Clear give. -/
import Derived.Test.YtcembocnkndlhaaM16
import Derived.Test.YtcembocnkndlhaaM11
namespace Go.Proofs.Ytcembocnkndlhaa
open Go.RowKit
theorem failure_up {d : Dk} {k : Int} (hf : formed d = true) (hd : d.down = false) (h0 : 0 ≤ k) (h1 : k < 400) : failure d k = 0 := failure_ok hf hd h0 h1
theorem log_chain {d : Dk} {k : Int} (h : failure d k = 0) : Chain (pagesOf d) k.toNat (recordsD d k) (zOf d k) ∧ Stop (pagesOf d) (zOf d k) ∧ k.toNat ≤ zOf d k ∧ zOf d k ≤ 400 := by
  obtain ⟨-, -, h0, h1⟩ := failure_zero h
  have hc := walkL_chain (pagesOf d) 400 k.toNat (by omega)
  have e1 : recordsD d k = (walkL (pagesOf d) 400 k.toNat).1 := by unfold recordsD; rw [if_neg (by simp [h])]
  rw [e1]
  exact ⟨hc.1, hc.2, hc.1.le, hc.1.top (by omega)⟩
theorem log_is {d : Dk} {k : Int} {L : List (List UInt8)} {z : Nat} (h : failure d k = 0) (hc : Chain (pagesOf d) k.toNat L z) (hs : Stop (pagesOf d) z) : recordsD d k = L ∧ zOf d k = z ∧ endD d k = (z : Int) := by
  have e := walk_is hc hs
  have e2 : zOf d k = z := by unfold zOf; rw [e]
  refine ⟨?_, e2, by rw [endD_ok h, e2]⟩
  unfold recordsD
  rw [if_neg (by simp [h]), e]
theorem app_ok {d : Dk} {k : Int} {r : List UInt8} (h : failure d k = 0) (hr : r.length ≤ 300) (hz : zOf d k + pagesN r.length ≤ 400) :
    appendD d k r = (⟨d.pages, d.writes ++ appendW (zOf d k) r, false⟩, 0) ∧ formed ⟨d.pages, d.writes ++ appendW (zOf d k) r, false⟩ = true ∧ recordsD ⟨d.pages, d.writes ++ appendW (zOf d k) r, false⟩ k = recordsD d k ++ [r] ∧ zOf ⟨d.pages, d.writes ++ appendW (zOf d k) r, false⟩ k = zOf d k + pagesN r.length ∧ endD ⟨d.pages, d.writes ++ appendW (zOf d k) r, false⟩ k = ((zOf d k + pagesN r.length : Nat) : Int)
      ∧ pagesOf ⟨d.pages, d.writes ++ appendW (zOf d k) r, false⟩ = after (pagesOf d) (zOf d k) r := by
  obtain ⟨hf, hd, h0, h1⟩ := failure_zero h
  have hfy : formed ⟨d.pages, d.writes ++ appendW (zOf d k) r, false⟩ = true := by
    have := formed_mid (r := r) hf hd hz (pagesN r.length) (Nat.le_refl _)
    rwa [Nat.sub_self, mid_all] at this
  have hp : pagesOf ⟨d.pages, d.writes ++ appendW (zOf d k) r, false⟩ = after (pagesOf d) (zOf d k) r := by
    rw [pages_append, ← hd]
  have hfail : failure ⟨d.pages, d.writes ++ appendW (zOf d k) r, false⟩ k = 0 := failure_ok hfy rfl h0 h1
  obtain ⟨c1, c2, c3, c4⟩ := log_chain h
  obtain ⟨c5, c6⟩ := chain_after (r := r) c1 (by unfold two32; omega) hz
  rw [← hp] at c5 c6
  obtain ⟨e1, e2, e3⟩ := log_is hfail c5 c6
  refine ⟨?_, hfy, e1, e2, e3, hp⟩
  unfold appendD
  rw [if_neg (by simp [h]), if_neg (by omega)]
theorem app_lim {d : Dk} {k : Int} {r : List UInt8} (h : failure d k = 0) (hz : ¬ zOf d k + pagesN r.length ≤ 400) : appendD d k r = (noDisk, 2) := by
  unfold appendD
  rw [if_neg (by simp [h]), if_pos (by omega)]
theorem app_err {d : Dk} {k : Int} {r : List UInt8} (h : failure d k ≠ 0) : appendD d k r = (noDisk, failure d k) ∧ endD d k = -1 ∧ recordsD d k = [] := by
  unfold appendD endD recordsD
  rw [if_pos h, if_pos h, if_pos h]
  exact ⟨rfl, rfl, rfl⟩
theorem appendW_len {z : Nat} {r : List UInt8} (hr : r.length ≤ 300) : (appendW z r).length ≤ 10 := by
  have h1 := length_appendI z r
  rw [appendW_eq, List.length_append, List.length_singleton]
  have : pagesN r.length ≤ 6 := by unfold pagesN; omega
  split at h1 <;> omega
theorem clear_ok {d : Dk} {k : Int} (h : failure d k = 0) : ∃ x, writeD d k [] = (x, 0) ∧ failure x k = 0 ∧ recordsD x k = [] ∧ endD x k = k ∧ zOf x k = k.toNat ∧ x.writes.length ≤ d.writes.length + 1 := by
  obtain ⟨hf, hd, h0, h1⟩ := failure_zero h
  have hfx := formed_write (data := []) hf hd h0 h1
  have hfail : failure ⟨d.pages, d.writes ++ [⟨k, full []⟩], d.down⟩ k = 0 := failure_ok hfx hd h0 h1
  have hst : Stop (pagesOf ⟨d.pages, d.writes ++ [⟨k, full []⟩], d.down⟩) k.toNat := by
    refine stop_unmarked ?_
    show (look _ ((k.toNat : Nat) : Int)).getD 63 0 ≠ 1
    rw [look_snoc, if_pos (by dsimp only; omega)]
    show (full (full [])).getD 63 0 ≠ 1
    rw [show full (full []) = zeros 64 from rfl, zeros_get]
    decide
  obtain ⟨e1, e2, e3⟩ := log_is hfail (.nil _) hst
  refine ⟨_, writeD_ok hf hd h0 h1 (by simp), hfail, e1, by rw [e3]; omega, e2, by simp⟩
theorem clear_err {d : Dk} {k : Int} (h : failure d k ≠ 0) : writeD d k [] = (noDisk, failure d k) := by
  unfold writeD
  rw [if_neg (by simp), if_pos h]
end Go.Proofs.Ytcembocnkndlhaa
