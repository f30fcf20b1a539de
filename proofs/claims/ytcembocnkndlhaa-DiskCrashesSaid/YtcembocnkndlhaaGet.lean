/- The frame after a step of a drawn region, laid out: an operation of the list. -/
import Derived.Test.YtcembocnkndlhaaTail
namespace Go.Proofs.Ytcembocnkndlhaa
theorem gets : (∀ (l : List Oper) (i : Nat) (h : i < l.toArray.size), l.toArray[i] = l[i]'(by simpa using h)) ∧ (∀ (x : Oper) (l : List Oper) (h : 0 < (x :: l).length), (x :: l)[0] = x) ∧ ∀ (x : Oper) (l : List Oper) (n : Nat) (h : n + 1 < (x :: l).length), (x :: l)[n + 1] = l[n]'(by simpa using h) :=
  ⟨fun _ _ _ => by simp, fun _ _ _ => rfl, fun _ _ _ _ => rfl⟩
end Go.Proofs.Ytcembocnkndlhaa
