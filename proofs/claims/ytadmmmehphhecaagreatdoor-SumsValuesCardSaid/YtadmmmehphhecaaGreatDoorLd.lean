/- Plain: how deep an expression is, up to a bound (sums) and whole (the reference). -/
import Derived.Test.YtadmmmehphhecaaGreatDoorLc
set_option linter.unusedVariables false
set_option linter.unusedSimpArgs false
namespace Go.Proofs.YtadmmmehphhecaaGreatDoor
open Go.RowKit
mutual
/-- sums.deep -/
def deepF : Nat → Ex → Nat
  | 0, _ => 1
  | m + 1, .mk _ _ _ k => deepL m k + 1
def deepL : Nat → Exs → Nat
  | _, .nil => 0
  | m, .cons e r => max (deepF m e) (deepL m r)
end
mutual
/-- whelkref03.Deep -/
def rdeepF : Ex → Nat
  | .mk _ _ _ k => rdeepL k + 1
def rdeepL : Exs → Nat
  | .nil => 0
  | .cons e r => max (rdeepF e) (rdeepL r)
end
mutual
/-- up to a bound both are the same; beyond it both are beyond -/
theorem deep_same : ∀ (m : Nat) (e : Ex), deepF m e = min (rdeepF e) (m + 1)
  | 0, .mk _ _ _ k => by simp only [deepF, rdeepF]; omega
  | m + 1, .mk _ _ _ k => by
    have := deepL_same m k
    simp only [deepF, rdeepF]; omega
theorem deepL_same : ∀ (m : Nat) (l : Exs), deepL m l = min (rdeepL l) (m + 1)
  | m, .nil => by simp only [deepL, rdeepL]; omega
  | m, .cons e r => by
    have h1 := deep_same m e
    have h2 := deepL_same m r
    simp only [deepL, rdeepL]; omega
end
end Go.Proofs.YtadmmmehphhecaaGreatDoor
