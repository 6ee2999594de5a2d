/- The walk of the reference's kids. No condition. -/
import Derived.Test.YtadmmmehphhecaaGreatDoorJ
set_option linter.unusedVariables false
set_option linter.unusedSimpArgs false
namespace Go.Proofs.YtadmmmehphhecaaGreatDoor
open Go.RowKit
def kidsF (x : List UInt8) : Int :=
  if x = [110, 117, 109] ∨ x = [110, 97, 109, 101] then 0 else if x = [110, 101, 103] ∨ x = [112, 111, 115] ∨ x = [110, 111, 116] ∨ x = [99, 111, 109] then 1
  else if x = [63] then 3 else if setF x = true then 1 else if 0 < levF x then 2 else -1
set_option maxHeartbeats 2000000 in
theorem rkids_any (x : List UInt8) (w : World) : Calls Tryz.prog 61 #[.string ⟨x.toArray⟩] w fun e w' => e = .returned (.int .i64 (kidsF x)) ∧ w = w' := by
  obtain ⟨v, hv⟩ : ∃ v, v = kidsF x := ⟨_, rfl⟩
  rw [← hv]
  have HV := hid hv
  clear hv
  go_enter Tryz.func61, Tryz.ntmps61
  go_wp2_with fail
  all_goals first
    | (go_ret; exact ⟨ret_int (by rw [HV.out]; unfold kidsF; simp_all; done), rfl⟩)
    | skip
  all_goals ((with_reducible refine (rsets_any x _).mono ?_); rintro e w1 ⟨rfl, rfl⟩)
  all_goals cases hs : setF x
  all_goals go_wp2_with fail
  all_goals first
    | (go_ret; exact ⟨ret_int (by rw [HV.out]; unfold kidsF; simp_all; done), rfl⟩)
    | skip
  all_goals ((with_reducible refine (level_any x _).mono ?_); rintro e w1 ⟨rfl, rfl⟩)
  all_goals by_cases hl : 0 < levF x
  all_goals go_wp2_with fail
  all_goals (go_ret; exact ⟨ret_int (by rw [HV.out]; unfold kidsF; simp_all), rfl⟩)
end Go.Proofs.YtadmmmehphhecaaGreatDoor
