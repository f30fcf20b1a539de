/- The contracts as arms of a region that draws its order; what fine gives. -/
import Derived.Test.YtcembocnkndlhaaUd
import Derived.Test.YtcembocnkndlhaaWi
import Derived.Test.YtcembocnkndlhaaLaws
import Derived.Deep.CutRange
import Derived.Deep.RegionHeld3
namespace Go.Proofs.Ytcembocnkndlhaa
open Go.RowKit
theorem page_ts {v : Value} {d : Dk} {k r : Int} {l : List UInt8} {w : World} {Q : Ending → World → Prop} (h : IsDisk w v d) (hr : Hid (readD d k = (l, r))) (q : ∀ a c w', IsBytes w' (.slice a l.length c) l → Below w.heap.size w w' → Q (.returned (.slice a l.length c)) w') : Calls Try.prog 34 #[v, .int .i64 k] w Q :=
  (page_any v d k w h).mono fun e w' ⟨a, c, he, hB, hb⟩ => by
    subst he
    rw [hr.out] at hB ⊢
    exact q a c w' hB hb
theorem sameb_ts {va vb : Value} {a b : List UInt8} {w : World} {Q : Ending → World → Prop} (ha : IsBytes w va a) (hb : IsBytes w vb b) (h : Hid (a = b)) (q : ∀ w', Below w.heap.size w w' → Q (.returned (.bool true)) w') : Calls Try.prog 26 #[va, vb] w Q :=
  (SameBytes_any va vb a b w ha hb).mono fun e w' hs => by
    obtain ⟨rfl, hB⟩ := hs.below
    rw [decide_eq_true h.out]
    exact q w' hB
theorem same_ts {va vb : Value} {a b : Dk} {w : World} {Q : Ending → World → Prop} (ha : IsDisk w va a) (hb : IsDisk w vb b) (h : Hid (a = b)) (q : ∀ w', Below w.heap.size w w' → Q (.returned (.bool true)) w') : Calls Try.prog 21 #[va, vb] w Q :=
  (Same_any va vb a b w ha hb).mono fun e w' ⟨he, hB⟩ => by
    subst he
    rw [decide_eq_true h.out]
    exact q w' hB
theorem restart_ts {v : Value} {d d' : Dk} {w : World} {Q : Ending → World → Prop} (h : IsDisk w v d) (hr : Hid (restartD d = d')) (q : ∀ pa pc wa wc w', IsDisk w' (.agg #[.slice pa d'.pages.length pc, .slice wa d'.writes.length wc, .bool d'.down]) d' → Below w.heap.size w w' → Q (.returned (.agg #[.slice pa d'.pages.length pc, .slice wa d'.writes.length wc, .bool d'.down])) w') : Calls Try.prog 29 #[v] w Q :=
  (Restart_any v d w h).mono fun e w' hres => by
    obtain ⟨pa, pc, wa, wc, rfl, hD, hB⟩ := hres.to hr
    exact q pa pc wa wc w' hD hB
theorem crash_ts {v : Value} {d d' : Dk} {k t : Int} {w : World} {Q : Ending → World → Prop} (h : IsDisk w v d) (hr : Hid (crashD d k t = d')) (q : ∀ pa pc wa wc w', IsDisk w' (.agg #[.slice pa d'.pages.length pc, .slice wa d'.writes.length wc, .bool d'.down]) d' → Below w.heap.size w w' → Q (.returned (.agg #[.slice pa d'.pages.length pc, .slice wa d'.writes.length wc, .bool d'.down])) w') : Calls Try.prog 27 #[v, .int .i64 k, .int .i64 t] w Q :=
  (Crash_any v d k t w h).mono fun e w' hres => by
    obtain ⟨pa, pc, wa, wc, rfl, hD, hB⟩ := hres.to hr
    exact q pa pc wa wc w' hD hB
theorem rfull_tb {v : Value} {l : List UInt8} {w : World} {Q : Ending → World → Prop} (h : IsBytes w v l) (hl : l.length ≤ 64) (q : ∀ a c w', IsBytes w' (.slice a (full l).length c) (full l) → Below w.heap.size w w' → Q (.returned (.slice a (full l).length c)) w') : Calls Try.prog 35 #[v] w Q :=
  rFull_ts h (by omega) fun g c w' hO hB => by
    rw [← full_rfull hl] at hO ⊢
    exact q _ c w' (OwnB.is hO (by rw [full_rfull hl]; simp [rfull, zeros]; omega)) hB
theorem fine_parts {d : Dk} (h : fineD d = true) : formed d = true ∧ d.down = false ∧ d.writes.length ≤ 24 ∧ d.pages.length ≤ 24 := by
  unfold fineD smallD at h
  simp at h
  exact ⟨h.1.2, h.2, h.1.1.1.1.2, h.1.1.1.1.1⟩
theorem syncD_fine {d : Dk} (h : formed d = true) (hd : d.down = false) : syncD d = (⟨replay d.pages d.writes, [], false⟩, 0) := syncD_ok h hd
end Go.Proofs.Ytcembocnkndlhaa
