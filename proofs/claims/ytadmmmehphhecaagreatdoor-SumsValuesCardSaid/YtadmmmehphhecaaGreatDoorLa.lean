/- The walk of kids. No condition. -/
import Derived.Test.YtadmmmehphhecaaGreatDoorL
set_option linter.unusedVariables false
set_option linter.unusedSimpArgs false
namespace Go.Proofs.YtadmmmehphhecaaGreatDoor
open Go.RowKit
theorem two_lev (x : List UInt8) : twoF x = decide (0 < levF x) := by
  rw [Bool.eq_iff_iff]
  simp only [twoF, decide_eq_true_eq]
  constructor
  · rintro ⟨r, hr, hx⟩
    simp [rowsF] at hr
    rcases hr with rfl | rfl | rfl | rfl | rfl | rfl | rfl | rfl | rfl | rfl <;> simp at hx <;> (try rcases hx with rfl | rfl | rfl | rfl) <;> (try rcases hx with rfl | rfl | rfl) <;> (try rcases hx with rfl | rfl) <;> (try subst hx) <;> decide
  · intro h
    apply Classical.byContradiction
    intro hn
    apply absurd h
    have h2 : ∀ r ∈ rowsF, x ∉ r := fun r hr hx => hn ⟨r, hr, hx⟩
    simp [rowsF] at h2
    simp_all [levF]
set_option maxHeartbeats 2000000 in
theorem kids_any (x : List UInt8) (w : World) : Calls Tryz.prog 57 #[.string ⟨x.toArray⟩] w fun e w' => e = .returned (.int .i64 (kidsF x)) ∧ Below w.heap.size w w' := by
  obtain ⟨v, hv⟩ : ∃ v, v = kidsF x := ⟨_, rfl⟩
  rw [← hv]
  have HV := hid hv
  clear hv
  have hB := Below.refl w.heap.size w
  by_cases h0 : x = [110, 117, 109] ∨ x = [110, 97, 109, 101] ∨ x = [110, 101, 103] ∨ x = [112, 111, 115] ∨ x = [110, 111, 116] ∨ x = [99, 111, 109]
  · rcases h0 with rfl | rfl | rfl | rfl | rfl | rfl
    all_goals (go_enter Tryz.func57, Tryz.ntmps57; go_wp2_with fail; go_ret; exact ⟨ret_int (by rw [HV.out]; rfl), hB⟩)
  · simp only [not_or] at h0
    obtain ⟨a0, a1, a2, a3, a4, a5⟩ := h0
    by_cases h3 : x = [63]
    · subst h3
      go_enter Tryz.func57, Tryz.ntmps57
      go_wp2_with fail
      ((with_reducible refine (isSet_any [63] _).mono ?_); rintro e w1 ⟨rfl, rfl⟩)
      rw [show setF [63] = false by decide]
      go_wp2_with fail
      go_ret
      exact ⟨ret_int (by rw [HV.out]; decide), hB⟩
    · have b0 : (x == [110, 117, 109]) = false := by simpa using a0
      have b1 : (x == [110, 97, 109, 101]) = false := by simpa using a1
      have b2 : (x == [110, 101, 103]) = false := by simpa using a2
      have b3 : (x == [112, 111, 115]) = false := by simpa using a3
      have b4 : (x == [110, 111, 116]) = false := by simpa using a4
      have b5 : (x == [99, 111, 109]) = false := by simpa using a5
      have b6 : (x == [63]) = false := by simpa using h3
      have HK : Hid (kidsF x = if setF x = true then 1 else if 0 < levF x then 2 else -1) := hid (by simp [kidsF, a0, a1, a2, a3, a4, a5, h3])
      clear a0 a1 a2 a3 a4 a5 h3
      cases hs : setF x
      · go_enter Tryz.func57, Tryz.ntmps57
        go_wp2_with fail
        ((with_reducible refine (isSet_any x _).mono ?_); rintro e w1 ⟨rfl, rfl⟩)
        rw [hs]
        go_wp2_with fail
        ((with_reducible refine (isTwo_any x _).mono ?_); rintro e w1 ⟨rfl, hb⟩)
        have ht := two_lev x
        cases hl : twoF x
        · go_wp2_with fail
          go_ret
          exact ⟨ret_int (by rw [HV.out, HK.out, hs, if_neg (by decide), if_neg (fun h => by rw [hl] at ht; simp at ht; omega)]), hb⟩
        · go_wp2_with fail
          go_ret
          exact ⟨ret_int (by rw [HV.out, HK.out, hs, if_neg (by decide), if_pos (by rw [hl] at ht; simpa using ht.symm)]), hb⟩
      · go_enter Tryz.func57, Tryz.ntmps57
        go_wp2_with fail
        ((with_reducible refine (isSet_any x _).mono ?_); rintro e w1 ⟨rfl, rfl⟩)
        rw [hs]
        go_wp2_with fail
        go_ret
        exact ⟨ret_int (by rw [HV.out, HK.out, hs, if_pos rfl]), hB⟩
end Go.Proofs.YtadmmmehphhecaaGreatDoor
