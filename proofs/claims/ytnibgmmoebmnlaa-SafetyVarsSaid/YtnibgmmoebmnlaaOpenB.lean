/- How the rows' arguments read: choices. -/
import Derived.Test.YtnibgmmoebmnlaaOpen
import Derived.Test.YtnibgmmoebmnlaaWs
namespace Go.Proofs.Ytnibgmmoebmnlaa
open Go.ChangeShapes Go.WideShapes Go.ChangeAt Go.RowKit Go.Deep
theorem picks_of_read {H : Type} {enc : TypeId × Value → H} {W : World} {base : Nat} {v : Value} {d : DataW H} {p : List MemPlace} (hv : Value.okWide Try.prog W .any base 51 v) (h : DataW.Trod enc Try.prog W 0 (fun _ => true) true 51 v d p) : ∃ l, IsPicks W v l ∧ ∀ x ∈ l, x < 256 := by
  obtain ⟨a0, len0, cap0, rfl⟩ := okWide_slice Try.underlying51 hv
  obtain ⟨fuel, hf⟩ := h
  obtain ⟨u, l, e, hr, ho⟩ := rd_slice (α := Nat) encB (fun x => x < 256) Try.underlying51 (show Try.prog.cellsOf 5 = 1 by kernel_rfl) (by decide) (fun m cs h => by
    obtain ⟨z, e, h0, h1⟩ := rd_u8 Try.underlying5 h
    refine ⟨z.toNat, ?_, by omega⟩
    have : ((z.toNat : Nat) : Int) = z := by omega
    rw [e]; unfold encB; rw [this]) ⟨_, hf⟩
  have : u = .slice a0 len0 cap0 := by simpa [Value.cells] using e.symm
  exact ⟨l, this ▸ hr, ho⟩
end Go.Proofs.Ytnibgmmoebmnlaa
