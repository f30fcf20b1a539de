/- Plain laws of the operations on relations: what two results have in common. -/
import Derived.Test.YtdibijhaiaiifaaDoorHp
namespace Go.Proofs.YtdibijhaiaiifaaDoor
theorem Sml.mono {n m : Nat} {xs : List RR} (h : Sml n xs) (hn : n ≤ m) : Sml m xs := ⟨Nat.le_trans h.len hn, h.each⟩
theorem Sml.nil (n : Nat) : Sml n [] := ⟨Nat.zero_le _, by simp⟩
section
variable {xs ys es bs cs ds : List RR} {o1 o2 : Bool → Bool → Bool}
/-- Two canonical relations of the same moments. -/
theorem same_of (ha : IsCan (rows es)) (hb : IsCan (rows bs)) (h : ∀ t k, k < 64 → mom (rows es) t k = mom (rows bs) t k) : rows es = rows bs := can_ext _ _ ha hb h
theorem none_of (ha : IsCan (rows es)) (h : ∀ t k, k < 64 → mom (rows es) t k = false) : es.length = 0 := by
  have := can_ext _ _ ha can_zero fun t k hk => by rw [h t k hk, mom_nil]
  rw [← rows_length, this]; rfl
theorem parts_union (hm : OpOf opM xs ys es) (hd : OpOf opD xs ys bs) (hu : OpOf opU es bs cs) (hx : OpOf opU xs [] ds) : rows cs = rows ds := by
  refine same_of hu.can hx.can fun t k hk => ?_
  rw [hu.mom t k hk, hm.mom t k hk, hd.mom t k hk, hx.mom t k hk]
  unfold opU opM opD
  show _ = (_ || mom [] t k)
  rw [mom_nil]
  cases mom (rows xs) t k <;> cases mom (rows ys) t k <;> rfl
theorem parts_meet (hm : OpOf opM xs ys es) (hd : OpOf opD xs ys bs) (hu : OpOf opM es bs cs) : cs.length = 0 := by
  refine none_of hu.can fun t k hk => ?_
  rw [hu.mom t k hk, hm.mom t k hk, hd.mom t k hk]
  unfold opM opD
  cases mom (rows xs) t k <;> cases mom (rows ys) t k <;> rfl
theorem parts_comm (hm : OpOf opM xs ys es) (hn : OpOf opM ys xs bs) : rows es = rows bs := by
  refine same_of hm.can hn.can fun t k hk => ?_
  rw [hm.mom t k hk, hn.mom t k hk]
  exact Bool.and_comm _ _
theorem parts_minus (hm : OpOf opM xs ys es) (hd : OpOf opD xs ys bs) (hn : OpOf opD xs bs cs) : rows cs = rows es := by
  refine same_of hn.can hm.can fun t k hk => ?_
  rw [hn.mom t k hk, hm.mom t k hk, hd.mom t k hk]
  unfold opM opD
  cases mom (rows xs) t k <;> cases mom (rows ys) t k <;> rfl
end
end Go.Proofs.YtdibijhaiaiifaaDoor
