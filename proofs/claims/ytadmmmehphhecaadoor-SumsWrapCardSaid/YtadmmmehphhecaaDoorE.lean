/- The walks of the reference's Blank, Digit and digit. No condition. -/
import Derived.Test.YtadmmmehphhecaaDoorA
import Derived.IntWalk
set_option linter.unusedVariables false
set_option linter.unusedSimpArgs false
namespace Go.Proofs.YtadmmmehphhecaaDoor
open Go.RowKit
def rvF (b : UInt8) : Int :=
  if digB b then (b.toNat : Int) - 48 else if (97 : Int) ≤ b.toNat ∧ (b.toNat : Int) ≤ 102 then (b.toNat : Int) - 97 + 10 else if (65 : Int) ≤ b.toNat ∧ (b.toNat : Int) ≤ 70 then (b.toNat : Int) - 65 + 10 else -1
def rdF (b : UInt8) (base : Int) : Int := if base ≤ rvF b then -1 else rvF b
end Go.Proofs.YtadmmmehphhecaaDoor
