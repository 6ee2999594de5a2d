/- The walks of the byte predicates of sums. No condition. -/
import Derived.Test.YtadmmmehphhecaaGreatDoorMem
import Derived.Test.YtadmmmehphhecaaGreatDoorRows
import Derived.WalkSpells
import Derived.WalkLawsBesides
import Derived.Deep.QuietTactic
import Derived.BigQuiet
import Derived.Outline
set_option linter.unusedVariables false
set_option linter.unusedSimpArgs false
namespace Go.Proofs.YtadmmmehphhecaaGreatDoor
open Go.RowKit
def digB (b : UInt8) : Bool := decide (48 ≤ b.toNat) && decide (b.toNat ≤ 57)
def octB (b : UInt8) : Bool := decide (48 ≤ b.toNat) && decide (b.toNat ≤ 55)
def letB (b : UInt8) : Bool := (decide (97 ≤ b.toNat) && decide (b.toNat ≤ 122)) || (decide (65 ≤ b.toNat) && decide (b.toNat ≤ 90)) || b.toNat == 95
def hexB (b : UInt8) : Bool := digB b || (decide (97 ≤ b.toNat) && decide (b.toNat ≤ 102)) || (decide (65 ≤ b.toNat) && decide (b.toNat ≤ 70))
def blkB (b : UInt8) : Bool := (decide (9 ≤ b.toNat) && decide (b.toNat ≤ 13)) || b.toNat == 32
def wrdB (b : UInt8) : Bool := letB b || digB b
theorem all_u8 {p : UInt8 → Prop} (h : ∀ n, n < 256 → p (UInt8.ofNat n)) (b : UInt8) : p b := by
  have := h b.toNat b.toNat_lt
  rwa [UInt8.ofNat_toNat] at this
theorem let_eq (b : UInt8) : letB b = ((decide (97 ≤ bits BinOp.or IntKind.u8 (b.toNat : Int) 32) && decide (bits BinOp.or IntKind.u8 (b.toNat : Int) 32 ≤ 122)) || ((b.toNat : Int) == 95)) := by
  revert b; apply all_u8; decide +kernel
theorem hex_eq (b : UInt8) : hexB b = (digB b || (decide (97 ≤ bits BinOp.or IntKind.u8 (b.toNat : Int) 32) && decide (bits BinOp.or IntKind.u8 (b.toNat : Int) 32 ≤ 102))) := by
  revert b; apply all_u8; decide +kernel
theorem x_eq (b : UInt8) : ((bits BinOp.or IntKind.u8 (b.toNat : Int) 32) == 120) = (b.toNat == 120 || b.toNat == 88) := by
  revert b; apply all_u8; decide +kernel
theorem digit_any (b : UInt8) (w : World) : Calls Tryz.prog 50 #[.int .u8 (b.toNat : Int)] w fun e w' => e = .returned (.bool (digB b)) ∧ w = w' := by
  have h : digB b = (decide ((48 : Int) ≤ (b.toNat : Int)) && decide ((b.toNat : Int) ≤ 57)) := by rw [Bool.eq_iff_iff]; simp [digB]; omega
  rw [h]; clear h
  go_enter Tryz.func50, Tryz.ntmps50
  go_wp2_with fail
  all_goals (go_ret; exact ⟨ret_bool (by first | (simp [*]; done) | (simp [*]; intros; omega)), rfl⟩)
theorem oct_any (b : UInt8) (w : World) : Calls Tryz.prog 52 #[.int .u8 (b.toNat : Int)] w fun e w' => e = .returned (.bool (octB b)) ∧ w = w' := by
  have h : octB b = (decide ((48 : Int) ≤ (b.toNat : Int)) && decide ((b.toNat : Int) ≤ 55)) := by rw [Bool.eq_iff_iff]; simp [octB]; omega
  rw [h]; clear h
  go_enter Tryz.func52, Tryz.ntmps52
  go_wp2_with fail
  all_goals (go_ret; exact ⟨ret_bool (by first | (simp [*]; done) | (simp [*]; intros; omega)), rfl⟩)
theorem letter_any (b : UInt8) (w : World) : Calls Tryz.prog 60 #[.int .u8 (b.toNat : Int)] w fun e w' => e = .returned (.bool (letB b)) ∧ w = w' := by
  rw [let_eq]
  go_enter Tryz.func60, Tryz.ntmps60
  go_wp2_with fail
  all_goals (go_ret; exact ⟨ret_bool (by first | (simp [*]; done) | (simp [*]; intros; omega)), rfl⟩)
theorem blank_any (b : UInt8) (w : World) : Calls Tryz.prog 73 #[.int .u8 (b.toNat : Int)] w fun e w' => e = .returned (.bool (blkB b)) ∧ w = w' := by
  have h : blkB b = ((decide ((9 : Int) ≤ (b.toNat : Int)) && decide ((b.toNat : Int) ≤ 13)) || ((b.toNat : Int) == 32)) := by rw [Bool.eq_iff_iff]; simp [blkB]; omega
  rw [h]; clear h
  go_enter Tryz.func73, Tryz.ntmps73
  go_wp2_with fail
  all_goals (go_ret; exact ⟨ret_bool (by first | (simp [*]; done) | (simp [*]; intros; omega)), rfl⟩)
theorem hex_any (b : UInt8) (w : World) : Calls Tryz.prog 51 #[.int .u8 (b.toNat : Int)] w fun e w' => e = .returned (.bool (hexB b)) ∧ w = w' := by
  rw [hex_eq]
  go_enter Tryz.func51, Tryz.ntmps51
  go_wp2_with fail
  ((with_reducible refine (digit_any b _).mono ?_); rintro e w1 ⟨rfl, rfl⟩)
  go_wp2_with fail
  all_goals (go_ret; exact ⟨ret_bool (by first | (simp [*]; done) | (simp [*]; intros; omega)), rfl⟩)
theorem wordR_any (b : UInt8) (w : World) : Calls Tryz.prog 59 #[.int .u8 (b.toNat : Int)] w fun e w' => e = .returned (.bool (wrdB b)) ∧ w = w' := by
  have h : wrdB b = (letB b || digB b) := rfl
  rw [h]; clear h
  go_enter Tryz.func59, Tryz.ntmps59
  go_wp2_with fail
  ((with_reducible refine (letter_any b _).mono ?_); rintro e w1 ⟨rfl, rfl⟩)
  cases hl : letB b
  · go_wp2_with fail
    ((with_reducible refine (digit_any b _).mono ?_); rintro e w1 ⟨rfl, rfl⟩)
    go_wp2_with fail
    go_ret
    exact ⟨ret_bool (by simp [hl]), rfl⟩
  · go_wp2_with fail
    go_ret
    exact ⟨ret_bool (by simp [hl]), rfl⟩
theorem wordN_any (b : UInt8) (w : World) : Calls Tryz.prog 74 #[.int .u8 (b.toNat : Int)] w fun e w' => e = .returned (.bool (wrdB b)) ∧ w = w' := by
  have h : wrdB b = (letB b || digB b) := rfl
  rw [h]; clear h
  go_enter Tryz.func74, Tryz.ntmps74
  go_wp2_with fail
  ((with_reducible refine (letter_any b _).mono ?_); rintro e w1 ⟨rfl, rfl⟩)
  cases hl : letB b
  · go_wp2_with fail
    ((with_reducible refine (digit_any b _).mono ?_); rintro e w1 ⟨rfl, rfl⟩)
    go_wp2_with fail
    go_ret
    exact ⟨ret_bool (by simp [hl]), rfl⟩
  · go_wp2_with fail
    go_ret
    exact ⟨ret_bool (by simp [hl]), rfl⟩
end Go.Proofs.YtadmmmehphhecaaGreatDoor
