/- Plain: cutting blanks from both ends, as the library and as the reference does. -/
import Derived.Test.YtadmmmehphhecaaGreatDoorH
set_option linter.unusedVariables false
set_option linter.unusedSimpArgs false
namespace Go.Proofs.YtadmmmehphhecaaGreatDoor
open Go.RowKit
theorem blks_eq (b : UInt8) : blks.contains b = blkB b := by revert b; apply all_u8; decide +kernel
theorem cutR_cons (x : UInt8) (r : List UInt8) : cutR (x :: r) = if cutR r = [] ∧ blkB x = true then [] else x :: cutR r := by
  unfold cutR
  rw [List.reverse_cons, List.dropWhile_append]
  generalize r.reverse.dropWhile blkB = y
  cases y with
  | nil => cases h : blkB x <;> simp [List.dropWhile_cons, h]
  | cons a b => simp
theorem cut_swap (l : List UInt8) : (cutR l).dropWhile blkB = cutR (l.dropWhile blkB) := by
  induction l with
  | nil => rfl
  | cons x r ih =>
    rw [cutR_cons]
    cases h : blkB x
    · rw [if_neg (by simp), List.dropWhile_cons, h, List.dropWhile_cons, h]
      simp only [Bool.false_eq_true, if_false]
      rw [cutR_cons, h, if_neg (by simp)]
    · rw [List.dropWhile_cons (xs := r), h]
      simp only [if_true, and_true]
      by_cases hc : cutR r = []
      · rw [if_pos hc, ← ih, hc]
      · rw [if_neg hc, List.dropWhile_cons, h]; exact ih
theorem trim_eq (l : List UInt8) : Lib.trimS l blks = cutR (l.dropWhile blkB) := by
  have hf : (fun b => blks.contains b) = blkB := funext blks_eq
  rw [← cut_swap]
  show List.dropWhile (fun b => blks.contains b) (l.reverse.dropWhile (fun b => blks.contains b)).reverse = _
  rw [hf]; rfl
theorem cutR_len (l : List UInt8) : (cutR l).length ≤ l.length := by
  unfold cutR; rw [List.length_reverse]
  have := (List.dropWhile_sublist blkB (l := l.reverse)).length_le
  rw [List.length_reverse] at this; exact this
theorem trim_len (l : List UInt8) : (Lib.trimS l blks).length ≤ l.length := by
  rw [trim_eq]; exact Nat.le_trans (cutR_len _) (List.dropWhile_sublist blkB).length_le
end Go.Proofs.YtadmmmehphhecaaGreatDoor
