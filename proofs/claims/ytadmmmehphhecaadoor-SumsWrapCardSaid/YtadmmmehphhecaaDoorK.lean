/- The walk of the reference's kids. No condition. -/
import Derived.Test.YtadmmmehphhecaaDoorJ
set_option linter.unusedVariables false
set_option linter.unusedSimpArgs false
namespace Go.Proofs.YtadmmmehphhecaaDoor
open Go.RowKit
def kidsF (x : List UInt8) : Int :=
  if x = [110, 117, 109] ∨ x = [110, 97, 109, 101] then 0 else if x = [110, 101, 103] ∨ x = [112, 111, 115] ∨ x = [110, 111, 116] ∨ x = [99, 111, 109] then 1
  else if x = [63] then 3 else if setF x = true then 1 else if 0 < levF x then 2 else -1
end Go.Proofs.YtadmmmehphhecaaDoor
