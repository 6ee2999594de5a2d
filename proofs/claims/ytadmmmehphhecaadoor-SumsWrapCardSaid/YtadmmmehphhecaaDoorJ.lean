/- The walks of the reference's sets and level. No condition. -/
import Derived.Test.YtadmmmehphhecaaDoorP
set_option linter.unusedVariables false
set_option linter.unusedSimpArgs false
namespace Go.Proofs.YtadmmmehphhecaaDoor
open Go.RowKit
def levF (x : List UInt8) : Int :=
  if x = [124, 124] then 1 else if x = [38, 38] then 2 else if x = [124] then 3 else if x = [94] then 4 else if x = [38] then 5
  else if x = [61, 61] ∨ x = [33, 61] then 6 else if x = [60] ∨ x = [60, 61] ∨ x = [62] ∨ x = [62, 61] then 7 else if x = [60, 60] ∨ x = [62, 62] then 8
  else if x = [43] ∨ x = [45] then 9 else if x = [42] ∨ x = [47] ∨ x = [37] then 10 else 0
end Go.Proofs.YtadmmmehphhecaaDoor
