/- Logs in plain Lean: crashes during the writes of Append. -/
import Derived.Test.YtcembocnkndlhaaM10
namespace Go.Proofs.Ytcembocnkndlhaa
open Go.RowKit
theorem open_true {d : Dk} {k : Nat} (hf : formed d = true) (hd : d.down = false) (hk : k ≤ 400) (h : k < 400 → (pagesOf d k).getD 63 0 = 0) : openD d (k : Int) = true := by
  unfold openD
  rcases Nat.lt_or_ge k 400 with hlt | hge
  · rw [failure_ok hf hd (by omega) (by omega)]
    have := h hlt
    unfold pagesOf at this
    rw [this]
    simp
  · rw [show k = 400 by omega]; rfl
theorem open_mark {d : Dk} {k : Nat} (hk : k < 400) (h : openD d (k : Int) = true) : (pagesOf d k).getD 63 0 = 0 := by
  unfold openD at h
  simp at h
  rcases h with h | h
  · omega
  · have := h.2
    unfold pagesOf
    rw [List.getD_eq_getElem?_getD]
    exact this
/-- What the law finds behind a crash. -/
theorem crash_facts {ds : Dk} {k : Int} {r : List UInt8} {kp t : Nat} (h : failure ds k = 0) (hw : ds.writes = []) (hr : r.length ≤ 300) (hz : zOf ds k + pagesN r.length ≤ 400) (hop : openD ds (zOf ds k : Nat) = true) (W : Nat) (hW : W = pagesN r.length + if zOf ds k + pagesN r.length < 400 then 1 else 0) (hk : kp ≤ W) (ht : t ≤ 64) :
    ∃ (x c0 c : Dk) (want : List (List UInt8)) (at_ : Nat), appendD ds k r = (x, 0) ∧ crashD x kp t = c0 ∧ restartD c0 = c ∧ failure c k = 0 ∧ c.writes = [] ∧ recordsD c k = want ∧ endD c k = (at_ : Int) ∧ zOf c k = at_ ∧ openD c (at_ : Nat) = true
      ∧ (((kp = W ∨ kp + 1 = W ∧ t = 64) ∧ want = recordsD ds k ++ [r] ∧ at_ = zOf ds k + pagesN r.length) ∨ (¬ (kp = W ∨ kp + 1 = W ∧ t = 64) ∧ want = recordsD ds k ∧ at_ = zOf ds k)) := by
  obtain ⟨hA, hfy, hRy, hZy, hEy, hPy⟩ := app_ok h hr hz
  obtain ⟨hfm, hdn, h0, h1⟩ := failure_zero h
  obtain ⟨c1, c2, c3, c4⟩ := log_chain h
  have hp1 := pagesN_pos r.length
  have hlI := length_appendI (zOf ds k) r
  obtain ⟨z, hzz⟩ : ∃ z, zOf ds k = z := ⟨_, rfl⟩
  rw [hzz] at hA hfy hRy hZy hEy hPy c1 c2 c3 c4 hlI hz hop hW ⊢
  obtain ⟨ps, ws, dn⟩ := ds
  dsimp only at hw hdn
  subst hw hdn
  dsimp only at hA hfy hRy hZy hEy hPy
  rw [List.nil_append] at hA hfy hRy hZy hEy hPy
  have hkI : kp ≤ (appendI z r).length + 1 := by omega
  have hfb := formed_crash hfy (kp : Int) (t : Int) false
  have hfail : failure ⟨broken ⟨ps, appendW z r, false⟩ kp t, [], false⟩ k = 0 := failure_ok hfb rfl h0 h1
  have hcr := crashD_ok hfy (kp : Int) (t : Int)
  have hre := restartD_ok (formed_crash hfy (kp : Int) (t : Int) true)
  by_cases hwh : kp = W ∨ kp + 1 = W ∧ t = 64
  · have hP := crash_whole (ps := ps) (z := z) (r := r) (k := kp) (t := t) hfy hkI (by omega)
    rw [hPy] at hP
    obtain ⟨c5, c6⟩ := chain_after (r := r) c1 (by unfold two32; omega) hz
    rw [← hP] at c5 c6
    obtain ⟨e1, e2, e3⟩ := log_is hfail c5 c6
    refine ⟨_, _, _, _, _, hA, hcr, hre, hfail, rfl, e1, e3, e2, open_true hfb rfl hz fun hlt => ?_, .inl ⟨hwh, rfl, rfl⟩⟩
    rw [hP]
    unfold after
    rw [if_neg (by omega), if_pos ⟨rfl, hlt⟩]
    show (zeros 64).getD 63 0 = 0
    exact zeros_get _ _
  · obtain ⟨hP1, hP2⟩ := crash_part (ps := ps) (z := z) (r := r) (k := kp) (t := t) hfy hkI (by omega)
    have hm : (pagesOf ⟨ps, [], false⟩ z).getD 63 0 = 0 := open_mark (by omega) hop
    rw [hm] at hP2
    have hst : Stop (pagesOf ⟨broken ⟨ps, appendW z r, false⟩ kp t, [], false⟩) z := stop_unmarked (by rw [hP2]; decide)
    have hch := c1.congr (Q := pagesOf ⟨broken ⟨ps, appendW z r, false⟩ kp t, [], false⟩) fun i _ hi => (hP1 i hi).symm
    obtain ⟨e1, e2, e3⟩ := log_is hfail hch hst
    exact ⟨_, _, _, _, _, hA, hcr, hre, hfail, rfl, e1, e3, e2, open_true hfb rfl (by omega) fun _ => hP2, .inr ⟨hwh, rfl, rfl⟩⟩
end Go.Proofs.Ytcembocnkndlhaa
