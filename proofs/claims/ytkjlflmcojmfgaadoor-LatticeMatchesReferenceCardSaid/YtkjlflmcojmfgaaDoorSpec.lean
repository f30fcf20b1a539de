/- What the functions of layer 3 compute, in plain Lean. -/
import Derived.Test.YtkjlflmcojmfgaaDoorMath
namespace Go.Proofs.YtkjlflmcojmfgaaDoor
def isLetter (c : UInt8) : Bool := (decide (97 ≤ c.toNat) && decide (c.toNat ≤ 122)) || (decide (65 ≤ c.toNat) && decide (c.toNat ≤ 90)) || (decide (48 ≤ c.toNat) && decide (c.toNat ≤ 57)) || decide (c.toNat = 95)
def firstOk (s : List UInt8) : Bool := match s.head? with | some c => decide (97 ≤ c.toNat) && decide (c.toNat ≤ 122) | none => false
def headOk (s : List UInt8) : Bool := decide (s.length ≤ 16) && firstOk s
end Go.Proofs.YtkjlflmcojmfgaaDoor
