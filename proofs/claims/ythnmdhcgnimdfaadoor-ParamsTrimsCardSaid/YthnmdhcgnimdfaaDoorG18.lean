/- What stands at places of a text, against what the rest of it begins with. No program in sight; no condition. -/
import Derived.Test.YthnmdhcgnimdfaaDoorG17
set_option linter.unusedVariables false
set_option linter.unusedSimpArgs false
namespace Go.Proofs.YthnmdhcgnimdfaaDoor
open Go.RowKit
theorem isB_drop (t : List Ch) (p j : Nat) (b : UInt8) : isB (t.drop p) j b = isB t (p + j) b := by unfold isB; rw [List.getElem?_drop]
theorem bareB_isB (t : List Ch) (b : UInt8) : bareB t [b] = isB t 0 b := bareB_one t b
theorem bareB_isB2 (t : List Ch) (a b : UInt8) : bareB t [a, b] = (isB t 0 a && isB t 1 b) := bareB_two t a b
/-- the name of a class, by places: k is the place behind the small letters -/
theorem named_at (t : List Ch) (p k : Nat) (hk : k = p + 2 + lowN (t.drop (p + 2))) :
    namedB (t.drop p) = if isB t p 91 = true ∧ isB t (p + 1) 58 = true ∧ p + 2 < k ∧ isB t k 58 = true ∧ isB t (k + 1) 93 = true then some (((t.take k).drop (p + 2)).map Prod.fst, k + 2 - p) else none := by
  unfold namedB
  rw [bareB_isB2, isB_drop, isB_drop, Nat.add_zero, List.drop_drop]
  have hl : lowN (t.drop (p + 2)) = k - p - 2 := by omega
  rw [hl, List.drop_drop, bareB_isB2, isB_drop, isB_drop, Nat.add_zero, show p + (2 + (k - p - 2)) = k by omega]
  have hmid : ((t.drop p).take (2 + (k - p - 2))).drop 2 = (t.take k).drop (p + 2) := by
    rw [List.take_drop, show p + (2 + (k - p - 2)) = k by omega, List.drop_drop]
  by_cases h1 : isB t p 91 = true
  · by_cases h2 : isB t (p + 1) 58 = true
    · by_cases h3 : p + 2 < k
      · by_cases h4 : isB t k 58 = true
        · by_cases h5 : isB t (k + 1) 93 = true
          · rw [if_pos (by simp [h1, h2]), if_neg (by omega), if_pos (by simp [h4, h5]), if_pos ⟨h1, h2, h3, h4, h5⟩, hmid]; congr 2; omega
          · rw [if_pos (by simp [h1, h2]), if_neg (by omega), if_neg (by simp [h5]), if_neg (by simp [h5])]
        · rw [if_pos (by simp [h1, h2]), if_neg (by omega), if_neg (by simp [h4]), if_neg (by simp [h4])]
      · rw [if_pos (by simp [h1, h2]), if_pos (by omega), if_neg (by simp; omega)]
    · rw [if_neg (by simp [h2]), if_neg (by simp [h2])]
  · rw [if_neg (by simp [h1]), if_neg (by simp [h1])]
/-- a range, by places -/
theorem thing_at (t : List Ch) (p : Nat) (c : Ch) (r : List Ch) (h : t.drop p = c :: r) (hn : namedB (c :: r) = none) :
    (isB t (p + 1) 45 = true → p + 2 < t.length → isB t (p + 2) 93 = false → ∃ e : Ch, t[p + 2]? = some e ∧ thingB c r = some (rangeL c.1 e.1, 3)) ∧
    (¬ (isB t (p + 1) 45 = true ∧ p + 2 < t.length ∧ isB t (p + 2) 93 = false) → thingB c r = some (rangeL c.1 c.1, 1)) := by
  have hr : r = t.drop (p + 1) := by
    have := congrArg (List.drop 1) h
    rw [List.drop_drop] at this
    simpa using this.symm
  have hl : r.length + 1 = t.length - p := by have := congrArg List.length h; simp at this; omega
  have e1 : bareB r [45] = isB t (p + 1) 45 := by rw [bareB_isB, hr, isB_drop]
  have e2 : bareB (r.drop 1) [93] = isB t (p + 2) 93 := by rw [bareB_isB, hr, List.drop_drop, isB_drop]
  have e3 : r[1]? = t[p + 2]? := by rw [hr, List.getElem?_drop]
  rcases thing_cases c r hn with ⟨hs, ht⟩ | ⟨e, he, h2, h3, h4, ht⟩
  · refine ⟨fun a b d => ?_, fun _ => ht⟩
    exfalso
    rcases hs with hs | ⟨_, hs⟩ | ⟨_, _, hs⟩
    · omega
    · rw [e1, a] at hs; cases hs
    · rw [e2, d] at hs; cases hs
  · refine ⟨fun _ _ _ => ⟨e, by rw [← e3]; exact he, ht⟩, fun hno => ?_⟩
    exfalso
    exact hno ⟨by rw [← e1]; exact h3, by omega, by rw [← e2]; exact h4⟩
end Go.Proofs.YthnmdhcgnimdfaaDoor
