/- The walk of isTwo. No condition. -/
import Derived.Test.YtadmmmehphhecaaGreatDoorK
set_option linter.unusedVariables false
set_option linter.unusedSimpArgs false
namespace Go.Proofs.YtadmmmehphhecaaGreatDoor
open Go.RowKit
def twoF (x : List UInt8) : Bool := decide (∃ r ∈ rowsF, x ∈ r)
set_option maxHeartbeats 2000000 in
theorem isTwo_any (x : List UInt8) (w : World) : Calls Tryz.prog 88 #[.string ⟨x.toArray⟩] w fun e w' => e = .returned (.bool (twoF x)) ∧ Below w.heap.size w w' := by
  go_enter Tryz.func88, Tryz.ntmps88
  go_wp2_with fail
  ((with_reducible refine (rows_any _).mono ?_); rintro e w2 ⟨h, rfl, hrw, hb2⟩)
  have HB := hid hb2
  have HR := hid hrw
  clear hb2 hrw
  have h10 : rowsF.length = 10 := rfl
  have H10 := hid h10
  clear h10
  go_wp2_with fail
  go_loop [4, 6, 9, 13, 14, 15] (fun v4 v6 v9 v13 v14 v15 => ∃ k : Nat, k ≤ 10 ∧ v9 = .int .i64 k ∧ Hid (∀ i (hi : i < rowsF.length), i < k → x ∉ rowsF[i])) (fun v4 v6 v9 v13 v14 v15 => 10 - (intOf v9).toNat)
  case atStart => exact ⟨0, Nat.zero_le _, rfl, hid (fun i hi h => absurd h (Nat.not_lt_zero _))⟩
  case round =>
    obtain ⟨k, hk, rfl, HN⟩ := hrel
    by_cases hlt : k < 10
    · obtain ⟨b, hb, hc, hat⟩ := HR.out.2 k (by rw [H10.out]; exact hlt)
      obtain ⟨l, hl⟩ : ∃ l, l = rowsF[k]'(by rw [H10.out]; exact hlt) := ⟨_, rfl⟩
      rw [← hl] at hc hat
      have HL := hid hl
      have HA := hid hat
      clear hl hat
      have hll : l.length ≤ 100 := by
        have : ∀ (i : Nat) (hi : i < rowsF.length), rowsF[i].length ≤ 100 := by decide
        rw [HL.out]; exact this k _
      go_wp2_with fail
      go_loop [6, 15] (fun v6 v15 => ∃ j : Nat, j ≤ l.length ∧ v15 = .int .i64 j ∧ Hid (x ∉ l.take j)) (fun v6 v15 => l.length - (intOf v15).toNat)
      case atStart => exact ⟨0, Nat.zero_le _, rfl, hid (by simp)⟩
      case round =>
        obtain ⟨j, hj, rfl, HJ⟩ := hrel
        by_cases hjl : j < l.length
        · have hcell : w2.cell? ⟨b, j, none⟩ = some (.string ⟨l[j].toArray⟩) := by
            have := HA.out j _ (strL_at l j hjl); rwa [Nat.zero_add] at this
          have hm := List.getElem_mem hjl
          have hnt := mem_take x l j hjl HJ.out
          generalize l[j] = y at *
          by_cases he : y = x
          · subst he
            have HF : Hid (twoF y = true) := hid (by unfold twoF; exact decide_eq_true ⟨rowsF[k]'(by rw [H10.out]; exact hlt), List.getElem_mem _, by rw [← HL.out]; exact hm⟩)
            clear hm hnt HJ
            go_wp2_with fail
            go_ret
            exact ⟨ret_bool HF.out.symm, HB.out⟩
          · have HT := hid (hnt (fun e => he e.symm))
            have hne : (y == x) = false := by simpa using he
            clear hm hnt HJ he
            go_wp2_with fail
            go_round
            case rel => exact ⟨j + 1, by omega, by go_num, HT⟩
            case measure => simp [intOf]; omega
        · have HF := hid (show x ∉ rowsF[k]'(by rw [H10.out]; exact hlt) by have := HJ.out; rw [List.take_of_length_le (by omega)] at this; rw [← HL.out]; exact this)
          clear HJ
          go_wp2_with fail
          go_round
          case rel => exact ⟨k + 1, by omega, by go_num, hid (fun i hi h => by
            by_cases hik : i = k
            · subst hik; exact HF.out
            · exact HN.out i hi (by omega))⟩
          case measure => simp [intOf]; omega
    · have HF : Hid (twoF x = false) := hid (by
        unfold twoF
        refine decide_eq_false (fun h => ?_)
        obtain ⟨r, hr, hx⟩ := h
        obtain ⟨i, hi, rfl⟩ := List.getElem_of_mem hr
        exact HN.out i hi (by rw [H10.out] at hi; omega) hx)
      clear HN
      go_wp2_with fail
      go_ret
      exact ⟨ret_bool HF.out.symm, HB.out⟩
end Go.Proofs.YtadmmmehphhecaaGreatDoor
