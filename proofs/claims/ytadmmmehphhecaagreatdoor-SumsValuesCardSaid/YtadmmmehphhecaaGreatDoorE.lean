/- The walks of the reference's Blank, Digit and digit. No condition. -/
import Derived.Test.YtadmmmehphhecaaGreatDoorA
import Derived.IntWalk
set_option linter.unusedVariables false
set_option linter.unusedSimpArgs false
namespace Go.Proofs.YtadmmmehphhecaaGreatDoor
open Go.RowKit
theorem rDigit_any (b : UInt8) (w : World) : Calls Tryz.prog 26 #[.int .u8 (b.toNat : Int)] w fun e w' => e = .returned (.bool (digB b)) ∧ w = w' := by
  have h : digB b = (decide ((48 : Int) ≤ (b.toNat : Int)) && decide ((b.toNat : Int) ≤ 57)) := by rw [Bool.eq_iff_iff]; simp [digB]; omega
  rw [h]; clear h
  go_enter Tryz.func26, Tryz.ntmps26
  go_wp2_with fail
  all_goals (go_ret; exact ⟨ret_bool (by first | (simp [*]; done) | (simp [*]; intros; omega)), rfl⟩)
theorem rBlank_any (b : UInt8) (w : World) : Calls Tryz.prog 25 #[.int .u8 (b.toNat : Int)] w fun e w' => e = .returned (.bool (blkB b)) ∧ w = w' := by
  have h : blkB b = ((decide ((9 : Int) ≤ (b.toNat : Int)) && decide ((b.toNat : Int) ≤ 13)) || ((b.toNat : Int) == 32)) := by rw [Bool.eq_iff_iff]; simp [blkB]; omega
  rw [h]; clear h
  go_enter Tryz.func25, Tryz.ntmps25
  go_wp2_with fail
  all_goals (go_ret; exact ⟨ret_bool (by first | (simp [*]; done) | (simp [*]; intros; omega)), rfl⟩)
/-- the value of a digit, whatever the base -/
def rvF (b : UInt8) : Int :=
  if digB b then (b.toNat : Int) - 48 else if (97 : Int) ≤ b.toNat ∧ (b.toNat : Int) ≤ 102 then (b.toNat : Int) - 97 + 10 else if (65 : Int) ≤ b.toNat ∧ (b.toNat : Int) ≤ 70 then (b.toNat : Int) - 65 + 10 else -1
def rdF (b : UInt8) (base : Int) : Int := if base ≤ rvF b then -1 else rvF b
set_option maxHeartbeats 2000000 in
theorem rdigit_any (b : UInt8) (base : Int) (w : World) : Calls Tryz.prog 55 #[.int .u8 (b.toNat : Int), .int .i64 base] w fun e w' => e = .returned (.int .i64 (rdF b base)) ∧ w = w' := by
  have hb : b.toNat < 256 := b.toNat_lt
  by_cases hd : digB b = true
  · have h0 : (48 : Int) ≤ b.toNat ∧ (b.toNat : Int) ≤ 57 := by simp [digB] at hd; omega
    have hv : rvF b = (b.toNat : Int) - 48 := by unfold rvF; rw [if_pos hd]
    have hs : IntKind.u8.wrap ((b.toNat : Int) - 48) = (b.toNat : Int) - 48 := by simp [IntKind.wrap, IntKind.signed, IntKind.bits]; omega
    have hs2 : IntKind.i64.wrap ((b.toNat : Int) - 48) = (b.toNat : Int) - 48 := IntWalk.i64_in _ (by omega)
    unfold rdF; rw [hv]
    go_enter Tryz.func55, Tryz.ntmps55
    go_wp2_with fail
    ((with_reducible refine (rDigit_any b _).mono ?_); rintro e w1 ⟨rfl, rfl⟩)
    go_wp2_with fail
    all_goals (go_ret; exact ⟨rfl, rfl⟩)
  · have hd' : digB b = false := by simpa using hd
    by_cases hl : (97 : Int) ≤ b.toNat ∧ (b.toNat : Int) ≤ 102
    · have hv : rvF b = (b.toNat : Int) - 97 + 10 := by unfold rvF; rw [if_neg hd, if_pos hl]
      obtain ⟨l0, l1⟩ := hl
      have hs : IntKind.u8.wrap ((b.toNat : Int) - 97) = (b.toNat : Int) - 97 := by simp [IntKind.wrap, IntKind.signed, IntKind.bits]; omega
      have hs2 : IntKind.i64.wrap ((b.toNat : Int) - 97) = (b.toNat : Int) - 97 := IntWalk.i64_in _ (by omega)
      have hs3 : IntKind.i64.wrap ((b.toNat : Int) - 97 + 10) = (b.toNat : Int) - 97 + 10 := IntWalk.i64_in _ (by omega)
      unfold rdF; rw [hv]
      go_enter Tryz.func55, Tryz.ntmps55
      go_wp2_with fail
      ((with_reducible refine (rDigit_any b _).mono ?_); rintro e w1 ⟨rfl, rfl⟩)
      go_wp2_with fail
      all_goals (go_ret; exact ⟨rfl, rfl⟩)
    · by_cases hu : (65 : Int) ≤ b.toNat ∧ (b.toNat : Int) ≤ 70
      · have hv : rvF b = (b.toNat : Int) - 65 + 10 := by unfold rvF; rw [if_neg hd, if_neg hl, if_pos hu]
        obtain ⟨l0, l1⟩ := hu
        have hs : IntKind.u8.wrap ((b.toNat : Int) - 65) = (b.toNat : Int) - 65 := by simp [IntKind.wrap, IntKind.signed, IntKind.bits]; omega
        have hs2 : IntKind.i64.wrap ((b.toNat : Int) - 65) = (b.toNat : Int) - 65 := IntWalk.i64_in _ (by omega)
        have hs3 : IntKind.i64.wrap ((b.toNat : Int) - 65 + 10) = (b.toNat : Int) - 65 + 10 := IntWalk.i64_in _ (by omega)
        have hl1 : (b.toNat : Int) < 97 := by omega
        have hl2 : ¬ (97 : Int) ≤ (b.toNat : Int) := by omega
        unfold rdF; rw [hv]
        clear hl
        go_enter Tryz.func55, Tryz.ntmps55
        go_wp2_with fail
        ((with_reducible refine (rDigit_any b _).mono ?_); rintro e w1 ⟨rfl, rfl⟩)
        go_wp2_with fail
        all_goals (go_ret; exact ⟨rfl, rfl⟩)
      · have hv : rvF b = -1 := by unfold rvF; rw [if_neg hd, if_neg hl, if_neg hu]
        unfold rdF; rw [hv]
        have hl3 : ∀ x : Bool, x = (decide ((97 : Int) ≤ (b.toNat : Int)) && decide ((b.toNat : Int) ≤ 102)) → x = false := by intro x hx; rw [hx]; simp; omega
        have hu3 : ∀ x : Bool, x = (decide ((65 : Int) ≤ (b.toNat : Int)) && decide ((b.toNat : Int) ≤ 70)) → x = false := by intro x hx; rw [hx]; simp; omega
        have HL := hid hl
        have HU := hid hu
        clear hl hu hl3 hu3
        go_enter Tryz.func55, Tryz.ntmps55
        go_wp2_with fail
        ((with_reducible refine (rDigit_any b _).mono ?_); rintro e w1 ⟨rfl, rfl⟩)
        go_wp2_with fail
        all_goals first | (exfalso; have := HL.out; have := HU.out; omega) | (go_ret; exact ⟨rfl, rfl⟩)
end Go.Proofs.YtadmmmehphhecaaGreatDoor
