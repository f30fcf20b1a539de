/- How a row's argument reads: a name. -/
import Derived.Test.YtnibgmmoebmnlaaOpenB
namespace Go.Proofs.Ytnibgmmoebmnlaa
open Go.ChangeShapes Go.WideShapes Go.ChangeAt Go.RowKit Go.Deep
theorem name_of_read {H : Type} {enc : TypeId × Value → H} {W : World} {base : Nat} {v : Value} {d : DataW H} {p : List MemPlace} (hv : Value.okWide Try.prog W .any base 9 v) (h : DataW.Trod enc Try.prog W 0 (fun _ => true) true 9 v d p) : ∃ x : Nm, v = .string x.1 := by
  obtain ⟨s, rfl⟩ := okWide_string Try.underlying9 hv
  obtain ⟨fuel, hf⟩ := h
  obtain ⟨x, e⟩ := rd_name ⟨_, hf⟩
  exact ⟨x, by simpa [Value.cells] using e⟩
end Go.Proofs.Ytnibgmmoebmnlaa
