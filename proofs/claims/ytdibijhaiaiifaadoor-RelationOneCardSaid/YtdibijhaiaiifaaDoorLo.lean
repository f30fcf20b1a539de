/- Plain laws of the law RelationOne. -/
import Derived.Test.YtdibijhaiaiifaaDoorLp
namespace Go.Proofs.YtdibijhaiaiifaaDoor
section
variable {xs ns rs us ms zs vs : List RR} {t t' : Tp} {s s' : List Sp}
theorem one_insert (hn : OpOf opU xs [rr t s] ns) (hu : OpOf opU xs [rr t s] us) : rows ns = rows us := same_of hn.can hu.can fun t' k hk => by rw [hn.mom t' k hk, hu.mom t' k hk]
theorem one_remove (hr : OpOf opD xs [rr t s] rs) (hm : OpOf opD xs [rr t s] ms) : rows rs = rows ms := same_of hr.can hm.can fun t' k hk => by rw [hr.mom t' k hk, hm.mom t' k hk]
theorem one_other (h : t ≠ t') (k : Nat) : mom (rows [rr t s]) t' k = false := by
  rw [mom_one]
  show (decide (t = t') && _) = false
  rw [decide_eq_false h]; rfl
theorem one_self (k : Nat) : mom (rows [rr t s]) t k = setOf s k := by
  rw [mom_one]
  show (decide (t = t) && setOf s k) = _
  rw [decide_eq_true rfl]; rfl
theorem one_when_insert (hn : OpOf opU xs [rr t s] ns) (h : t ≠ t') : (canon fun k => mom (rows ns) t' k) = canon fun k => mom (rows xs) t' k := canon_ext fun k hk => by
  rw [hn.mom t' k hk, one_other h]
  exact Bool.or_false _
theorem one_when_remove (hr : OpOf opD xs [rr t s] rs) (h : t ≠ t') : (canon fun k => mom (rows rs) t' k) = canon fun k => mom (rows xs) t' k := canon_ext fun k hk => by
  rw [hr.mom t' k hk, one_other h]
  unfold opD
  cases mom (rows xs) t' k <;> rfl
theorem one_back (hn : OpOf opU xs [rr t s] ns) (hz : OpOf opD ns [rr t (canon fun k => setOf s k && !setOf (canon fun k => mom (rows xs) t k) k)] zs) (hv : OpOf opU xs [] vs) : rows zs = rows vs := by
  refine same_of hz.can hv.can fun t' k hk => ?_
  rw [hz.mom t' k hk, hn.mom t' k hk, hv.mom t' k hk]
  unfold opU opD
  show _ = (_ || mom [] t' k)
  rw [mom_nil]
  by_cases h : t = t'
  · subst h
    rw [one_self, one_self, setOf_canon _ k hk, setOf_canon _ k hk]
    cases mom (rows xs) t k <;> cases setOf s k <;> rfl
  · rw [one_other h, one_other h]
    cases mom (rows xs) t' k <;> rfl
theorem one_when (hn : OpOf opU xs [rr t s] ns) : (canon fun k => mom (rows ns) t k) = canon fun k => setOf (canon fun k => mom (rows xs) t k) k || setOf s k := canon_ext fun k hk => by
  rw [hn.mom t k hk, one_self, setOf_canon _ k hk]
  rfl
end
end Go.Proofs.YtdibijhaiaiifaaDoor
