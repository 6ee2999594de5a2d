/- The walks of the reference's sets and level. No condition. -/
import Derived.Test.YtadmmmehphhecaaGreatDoorP
set_option linter.unusedVariables false
set_option linter.unusedSimpArgs false
namespace Go.Proofs.YtadmmmehphhecaaGreatDoor
open Go.RowKit
theorem rsets_any (x : List UInt8) (w : World) : Calls Tryz.prog 62 #[.string ⟨x.toArray⟩] w fun e w' => e = .returned (.bool (setF x)) ∧ w = w' := by
  by_cases h : x ∈ setL
  · have HF : Hid (setF x = true) := hid (by simpa [setF] using h)
    have HM := hid h
    clear h
    go_enter Tryz.func62, Tryz.ntmps62
    go_wp2_with fail
    all_goals first
      | (go_ret; exact ⟨ret_bool HF.out.symm, rfl⟩)
      | (exfalso; have := HM.out; simp_all [setL]; done)
  · have HF : Hid (setF x = false) := hid (by simpa [setF] using h)
    have HM := hid h
    clear h
    go_enter Tryz.func62, Tryz.ntmps62
    go_wp2_with fail
    all_goals first
      | (go_ret; exact ⟨ret_bool HF.out.symm, rfl⟩)
      | (exfalso; have := HM.out; simp_all [setL]; done)
def levF (x : List UInt8) : Int :=
  if x = [124, 124] then 1 else if x = [38, 38] then 2 else if x = [124] then 3 else if x = [94] then 4 else if x = [38] then 5
  else if x = [61, 61] ∨ x = [33, 61] then 6 else if x = [60] ∨ x = [60, 61] ∨ x = [62] ∨ x = [62, 61] then 7 else if x = [60, 60] ∨ x = [62, 62] then 8
  else if x = [43] ∨ x = [45] then 9 else if x = [42] ∨ x = [47] ∨ x = [37] then 10 else 0
set_option maxHeartbeats 2000000 in
theorem level_any (x : List UInt8) (w : World) : Calls Tryz.prog 89 #[.string ⟨x.toArray⟩] w fun e w' => e = .returned (.int .i64 (levF x)) ∧ w = w' := by
  obtain ⟨v, hv⟩ : ∃ v, v = levF x := ⟨_, rfl⟩
  rw [← hv]
  have HV := hid hv
  clear hv
  go_enter Tryz.func89, Tryz.ntmps89
  go_wp2_with fail
  all_goals (go_ret; exact ⟨ret_int (by rw [HV.out]; unfold levF; simp_all), rfl⟩)
end Go.Proofs.YtadmmmehphhecaaGreatDoor
